/- Shapes: a step of the law walked. -/
import Derived.Test.YtchbgececcclgaaPr
namespace Go.Proofs.Ytchbgececcclgaa
open Go.RowKit Go
set_option linter.unusedVariables false
set_option linter.unusedSimpArgs false
theorem Below.drew_ {w w' : World} (h : Below w.drew.heap.size w.drew w') : Below w.heap.size w w' := ⟨h.os, h.tape, h.output, h.size, h.block⟩
theorem Kept.setNew {B : Nat} {a w : World} {k i : Nat} (h : Kept B a w) (hp : a.heap.size ≤ k) (hB : B ≤ k) (u : Value) : Kept B a (w.setCell ⟨k, i, none⟩ u) :=
  ⟨h.bel.setCell (p := ⟨k, i, none⟩) hB u, fun b hb ho => (Below.heap_setCell w ⟨k, i, none⟩ u b (fun e => by
    have e : b = k := e
    omega)).trans (h.keep b hb ho)⟩
theorem Blk.afar {w : World} {g k i : Nat} {t : TypeId} {cs : Array Value} (h : Blk w g t cs) (hp : g ≠ k) (u : Value) : Blk (w.setCell ⟨k, i, none⟩ u) g t cs := h.far (p := ⟨k, i, none⟩) hp u
theorem Kept.blk {B : Nat} {w w' : World} {b : Nat} {t : TypeId} {cs : Array Value} (h : Kept B w w') (hb : Blk w b t cs) (h1 : t ≠ 51) (h2 : t ≠ 63) : Blk w' b t cs := (h.keep b hb.lt (.inr ⟨cs, t, hb, h1, h2⟩)).trans hb
theorem TreeIs.set32 {w : World} {B g b : Nat} {most : Int} {L : List Sh} {cs : Array Value} (h : TreeIs w B g most L) (hb : Blk w b 32 cs) (hB : B ≤ b) (i : Nat) (u : Value) : TreeIs (w.setCell ⟨b, i, none⟩ u) B g most L := by
  obtain ⟨v, D, rb, R, h1, h2⟩ := h
  have k3 := Kept3.set32 hb hB i u
  have mp : ∀ {k : TypeId} {c : Nat} {es : List (Value × Value)}, MapIs w k c es → MapIs (w.setCell ⟨b, i, none⟩ u) k c es := fun {k c es} hm => hm.same (Below.heap_setCell _ _ _ _ (fun e => by
    have e : c = b := e
    subst e; exact hm.no_cells hb))
  refine ⟨v, D, rb, R, ⟨h1.bb, h1.blk.far (p := ⟨b, i, none⟩) (Blk.ne_ h1.blk hb (by decide)) u, ownsRow_setCell_other h1.own (a := ⟨b, i, none⟩) (own_blk_ne h1.own hb (by decide)) u, fun d hd => ?_, mp h1.roots, h1.rB, h1.apart⟩, h2⟩
  have k := h1.node d hd
  exact ⟨k.l.keep3 k3, mp k.e, k.b⟩
/-- what a step gives: true, and both trees behind the call. -/
def StepGives (w : World) (B g : Nat) (most : Int) (L' : List Sh) (e : Ending) (w' : World) : Prop := ∃ A n c, e = .returned (.tuple #[.agg #[.int .i64 most, .slice A n c], .bool true]) ∧ TreeIs w' B g most L' ∧ RTree B w' A n L' ∧ Kept B w w'
set_option maxRecDepth 100000 in
set_option maxHeartbeats 16000000 in
theorem step0_calls (w : World) (B g : Nat) (most : Int) (A : Option Addr) (n c : Nat) (L : List Sh) (h : TreeIs w B g most L) (hr : RTree B w A n L) (hW : WF L) (shape flags proto : Int) (key : ByteArray) (ho : (⟨0, shape, flags, proto, key⟩ : Opp).Ok) (hb : 2 * L.length + 2 ≤ 1000000000000) (hb2 : (stepP most L ⟨0, shape, flags, proto, key⟩).1.length ≤ 1000000000000) (hW2 : WF (stepP most L ⟨0, shape, flags, proto, key⟩).1) :
    Calls Try.prog 9 #[.pointer (some ⟨g, 0, none⟩), .agg #[.int .i64 most, .slice A n c], .agg #[.int .i64 0, .int .i64 shape, .int .i64 flags, .int .u64 proto, .string key]] w (StepGives w B g most (stepP most L ⟨0, shape, flags, proto, key⟩).1) := by
  have hst : stepP most L ⟨0, shape, flags, proto, key⟩ = rootP most L proto := by unfold stepP; simp
  have PC := Lib.hid (fun w1 (h1 : TreeIs w1 B g most L) => have hb1 : L.length ≤ 1000000000000 := by omega
    show Calls Try.prog 15 #[.pointer (some ⟨g, 0, none⟩), .int .u64 proto] w1 (Gives w1 B g most (stepP most L ⟨0, shape, flags, proto, key⟩)) from hst.symm ▸ root_calls w1 B g most L h1 hW proto ho.proto hb1)
  have RC := Lib.hid (fun w1 (h1 : RTree B w1 A n L) (hB1 : B ≤ w1.heap.size) => have hb1 : L.length ≤ 1000000000000 := by omega
    show Calls Try.prog 16 #[.agg #[.int .i64 most, .slice A n c], .int .u64 proto] w1 (RGives w1 B most (stepP most L ⟨0, shape, flags, proto, key⟩)) from hst.symm ▸ rroot_calls w1 B most A n c L h1 hW proto hB1 hb1)
  have hB := h.base
  have W1 := below_alloc (o := .cells #[.int .i64 most, .slice A n c] 32) (Below.refl w.heap.size w)
  have W2 := below_alloc (o := .cells #[.int .i64 0, .int .i64 shape, .int .i64 flags, .int .u64 proto, .string key] 25) W1
  have W3 := below_alloc (o := .cells #[.int .i64 0, .slice none 0 0] 32) W2
  have W4 := below_alloc (o := .cells #[.int .i64 most, .slice A n c] 32) W3
  have b4 := (((Blk.new w 32 #[.int .i64 most, .slice A n c]).alloc (.cells #[.int .i64 0, .int .i64 shape, .int .i64 flags, .int .u64 proto, .string key] 25)).alloc (.cells #[.int .i64 0, .slice none 0 0] 32)).alloc (.cells #[.int .i64 most, .slice A n c] 32)
  have b5 := ((Blk.new (w.alloc (.cells #[.int .i64 most, .slice A n c] 32)) 25 #[.int .i64 0, .int .i64 shape, .int .i64 flags, .int .u64 proto, .string key]).alloc (.cells #[.int .i64 0, .slice none 0 0] 32)).alloc (.cells #[.int .i64 most, .slice A n c] 32)
  have b6 := (Blk.new ((w.alloc (.cells #[.int .i64 most, .slice A n c] 32)).alloc (.cells #[.int .i64 0, .int .i64 shape, .int .i64 flags, .int .u64 proto, .string key] 25)) 32 #[.int .i64 0, .slice none 0 0]).alloc (.cells #[.int .i64 most, .slice A n c] 32)
  have b12 := Blk.new (((w.alloc (.cells #[.int .i64 most, .slice A n c] 32)).alloc (.cells #[.int .i64 0, .int .i64 shape, .int .i64 flags, .int .u64 proto, .string key] 25)).alloc (.cells #[.int .i64 0, .slice none 0 0] 32)) 32 #[.int .i64 most, .slice A n c]
  simp only [size_alloc] at b5 b6 b12
  have hT4 := h.below W4
  have hR4 := hr.keep (Kept.below W4 hB)
  have hB4 := Nat.le_trans hB W4.size
  have HW4 := Lib.hid W4
  have Hb4 := Lib.hid b4
  have Hb5 := Lib.hid b5
  have Hb6 := Lib.hid b6
  have Hb12 := Lib.hid b12
  have HT4 := Lib.hid hT4
  have HR4 := Lib.hid hR4
  have HB4 := Lib.hid hB4
  have HB := Lib.hid hB
  have HW2 := Lib.hid hW2
  have Hb2 := Lib.hid hb2
  obtain ⟨z0, z1, z2, z3, z4⟩ := b5.five
  obtain ⟨y0, y1, _, _⟩ := b4.two
  obtain ⟨x0, x1, x2, x3⟩ := b12.two
  clear h hr hW ho hb hb2 hW2 hB W1 W2 W3 W4 b4 b5 b6 b12 hT4 hR4 hB4
  clear hst
  go_enter Try.func9, Try.ntmps9
  go_wp2_with (first | (go_at_call 15; (with_reducible refine (PC.out _ HT4.out).mono ?_); rintro e w1 ⟨rfl, ht1, k1⟩; obtain ⟨z0, z1, z2, z3, z4⟩ := (k1.blk Hb5.out (by decide) (by decide)).five; obtain ⟨y0, y1, _, _⟩ := (k1.blk Hb4.out (by decide) (by decide)).two; have ht1 := Lib.hid ht1; have k1 := Lib.hid k1) |
    (go_at_call 16; (with_reducible refine (RC.out _ (HR4.out.keep k1.out) (Nat.le_trans HB4.out k1.out.bel.size)).mono ?_); rintro e w2 ⟨A2, n2, c2, rfl, ht2, hb2⟩; obtain ⟨x0, x1, x2, x3⟩ := ((k1.out.blk Hb12.out (by decide) (by decide)).below hb2 (k1.out.blk Hb12.out (by decide) (by decide)).lt).two; have ht2 := Lib.hid ht2; have hb2 := Lib.hid hb2))
  have h12 := (k1.out.blk Hb12.out (by decide) (by decide)).below hb2.out (k1.out.blk Hb12.out (by decide) (by decide)).lt
  have h5 := (k1.out.blk Hb5.out (by decide) (by decide)).below hb2.out (k1.out.blk Hb5.out (by decide) (by decide)).lt
  have h6 := (k1.out.blk Hb6.out (by decide) (by decide)).below hb2.out (k1.out.blk Hb6.out (by decide) (by decide)).lt
  have hT2 := ht1.out.below hb2.out
  have hB12 : B ≤ w.heap.size + 1 + 1 + 1 := by have := HB.out; omega
  have hT3 := (hT2.set32 h12 hB12 0 (.int .i64 most)).set32 (h12.set_ 0 _) hB12 1 (.slice A2 n2 c2)
  have hR3 := (ht2.out.set32 h12 hB12 0 (.int .i64 most)).set32 (h12.set_ 0 _) hB12 1 (.slice A2 n2 c2)
  have hK3 := ((((Kept.below HW4.out HB.out).trans k1.out).trans (Kept.below hb2.out ht1.out.base)).setNew (k := w.heap.size + 1 + 1 + 1) (i := 0) (by omega) hB12 (.int .i64 most)).setNew (k := w.heap.size + 1 + 1 + 1) (i := 1) (by omega) hB12 (.slice A2 n2 c2)
  have h12' := (h12.set_ 0 (.int .i64 most)).set_ 1 (.slice A2 n2 c2)
  have h5' := (h5.afar (k := w.heap.size + 1 + 1 + 1) (i := 0) (by omega) (.int .i64 most)).afar (k := w.heap.size + 1 + 1 + 1) (i := 1) (by omega) (.slice A2 n2 c2)
  have h6' := (h6.afar (k := w.heap.size + 1 + 1 + 1) (i := 0) (by omega) (.int .i64 most)).afar (k := w.heap.size + 1 + 1 + 1) (i := 1) (by omega) (.slice A2 n2 c2)
  obtain rfl := hR3.len
  clear PC RC HW4 Hb4 Hb5 Hb6 Hb12 HT4 HR4 HB4 z0 z1 z2 z3 z4 y0 y1 x0 x1 x2 x3 ht1 k1 ht2 hb2 h12 h5 h6 hT2
  generalize (w2.setCell ⟨w.heap.size + 1 + 1 + 1, 0, none⟩ (.int .i64 most)).setCell ⟨w.heap.size + 1 + 1 + 1, 1, none⟩ (.slice A2 _ c2) = W at *
  have HT := Lib.hid hT3
  have HR := Lib.hid hR3
  have HK := Lib.hid hK3
  have HB6 := Lib.hid h6'
  have HWB := Lib.hid hT3.base
  have CC := Lib.hid (fun w' (b : Below W.heap.size W w') => tree_count (hT3.below b))
  have TC := Lib.hid (fun w' (b : Below W.heap.size W w') => show Calls Try.prog 22 #[.pointer (some ⟨g, 0, none⟩), .agg #[.int .i64 most, .slice A2 (stepP most L ⟨0, shape, flags, proto, key⟩).1.length c2], .agg #[.int .i64 0, .int .i64 shape, .int .i64 flags, .int .u64 proto, .string key]] w' _ from told_calls w' B g most A2 _ c2 _ (hT3.below b) (hR3.keep (Kept.below b hT3.base)) HW2.out ⟨0, shape, flags, proto, key⟩ Hb2.out)
  have SX := Lib.hid (fun w' (b : Below W.heap.size W w') => show (fun w' => w'.cell? ⟨w.heap.size + 1 + 1 + 1, 0, none⟩ = some (.int .i64 most) ∧ w'.cell? ⟨w.heap.size + 1 + 1 + 1, 1, none⟩ = some (.slice A2 (stepP most L ⟨0, shape, flags, proto, key⟩).1.length c2) ∧ w'.cell? ⟨w.heap.size + 1, 0, none⟩ = some (.int .i64 0) ∧ w'.cell? ⟨w.heap.size + 1, 1, none⟩ = some (.int .i64 shape) ∧ w'.cell? ⟨w.heap.size + 1, 2, none⟩ = some (.int .i64 flags) ∧ w'.cell? ⟨w.heap.size + 1, 3, none⟩ = some (.int .u64 proto) ∧ w'.cell? ⟨w.heap.size + 1, 4, none⟩ = some (.string key)) w' from
    ⟨(b.cell (p := ⟨w.heap.size + 1 + 1 + 1, 0, none⟩) h12'.lt).trans (h12'.cell 0), (b.cell (p := ⟨w.heap.size + 1 + 1 + 1, 1, none⟩) h12'.lt).trans (h12'.cell 1), (b.cell (p := ⟨w.heap.size + 1, 0, none⟩) h5'.lt).trans (h5'.cell 0), (b.cell (p := ⟨w.heap.size + 1, 1, none⟩) h5'.lt).trans (h5'.cell 1), (b.cell (p := ⟨w.heap.size + 1, 2, none⟩) h5'.lt).trans (h5'.cell 2), (b.cell (p := ⟨w.heap.size + 1, 3, none⟩) h5'.lt).trans (h5'.cell 3), (b.cell (p := ⟨w.heap.size + 1, 4, none⟩) h5'.lt).trans (h5'.cell 4)⟩)
  have SY := Lib.hid (fun w' (b : Below W.heap.size W w') => show (fun w' => w'.cell? ⟨w.heap.size + 1 + 1 + 1, 0, none⟩ = some (.int .i64 most) ∧ w'.cell? ⟨w.heap.size + 1 + 1 + 1, 1, none⟩ = some (.slice A2 (stepP most L ⟨0, shape, flags, proto, key⟩).1.length c2) ∧ w'.cell? ⟨w.heap.size + 1, 0, none⟩ = some (.int .i64 0) ∧ w'.cell? ⟨w.heap.size + 1, 1, none⟩ = some (.int .i64 shape) ∧ w'.cell? ⟨w.heap.size + 1, 2, none⟩ = some (.int .i64 flags) ∧ w'.cell? ⟨w.heap.size + 1, 3, none⟩ = some (.int .u64 proto) ∧ w'.cell? ⟨w.heap.size + 1, 4, none⟩ = some (.string key)) ((w'.setCell ⟨w.heap.size + 1 + 1, 0, none⟩ (.int .i64 most)).setCell ⟨w.heap.size + 1 + 1, 1, none⟩ (.slice A2 (stepP most L ⟨0, shape, flags, proto, key⟩).1.length c2)) from
    have k12 := ((h12'.below b h12'.lt).afar (k := w.heap.size + 1 + 1) (i := 0) (by omega) (.int .i64 most)).afar (k := w.heap.size + 1 + 1) (i := 1) (by omega) (.slice A2 (stepP most L ⟨0, shape, flags, proto, key⟩).1.length c2)
    have k5 := ((h5'.below b h5'.lt).afar (k := w.heap.size + 1 + 1) (i := 0) (by omega) (.int .i64 most)).afar (k := w.heap.size + 1 + 1) (i := 1) (by omega) (.slice A2 (stepP most L ⟨0, shape, flags, proto, key⟩).1.length c2)
    ⟨k12.cell 0, k12.cell 1, k5.cell 0, k5.cell 1, k5.cell 2, k5.cell 3, k5.cell 4⟩)
  clear hT3 hR3 hK3 h12' h5' h6' HW2 Hb2
  refine wp_region_held_drew (S := (fun w' => w'.cell? ⟨w.heap.size + 1 + 1 + 1, 0, none⟩ = some (.int .i64 most) ∧ w'.cell? ⟨w.heap.size + 1 + 1 + 1, 1, none⟩ = some (.slice A2 (stepP most L ⟨0, shape, flags, proto, key⟩).1.length c2) ∧ w'.cell? ⟨w.heap.size + 1, 0, none⟩ = some (.int .i64 0) ∧ w'.cell? ⟨w.heap.size + 1, 1, none⟩ = some (.int .i64 shape) ∧ w'.cell? ⟨w.heap.size + 1, 2, none⟩ = some (.int .i64 flags) ∧ w'.cell? ⟨w.heap.size + 1, 3, none⟩ = some (.int .u64 proto) ∧ w'.cell? ⟨w.heap.size + 1, 4, none⟩ = some (.string key))) (by kernel_rfl) ?_ (fun hHeld => ?_)
  · exact SX.out _ (Below.refl _ _).drew
  refine wpAnyH_take (i := 0) (oi := ?o1) (v := ?v1) ?h1 (by kernel_rfl) (by kernel_rfl) (by kernel_rfl) ?q1 ?y1 (by assumption) ?_
  case h1 => (simp only [List.getElem?_toArray, List.getElem?_cons_succ, List.getElem?_cons_zero]; try rfl)
  case q1 => exact fun _ _ _ h => h
  case y1 => refine Or.inl ⟨by rfl, ?_⟩; (intro w hSw; (try dsimp only at hSw); go_simp; try with_reducible rfl)
  try simp only [Act.put, List.setIfInBounds_toArray, List.set_cons_zero, List.set_cons_succ]
  refine wpAnyH_take (i := 1) (oi := ?o2) (v := ?v2) ?h2 (by kernel_rfl) (by kernel_rfl) (by kernel_rfl) ?q2 ?y2 (by assumption) ?_
  case h2 => (simp only [List.getElem?_toArray, List.getElem?_cons_succ, List.getElem?_cons_zero]; try rfl)
  case q2 => exact fun _ _ _ h => h
  case y2 => refine Or.inl ⟨by rfl, ?_⟩; (intro w hSw; (try dsimp only at hSw); go_simp; try with_reducible rfl)
  try simp only [Act.put, List.setIfInBounds_toArray, List.set_cons_zero, List.set_cons_succ]
  refine wpAnyH_take (i := 2) (oi := ?o3) (v := ?v3) ?h3 (by kernel_rfl) (by kernel_rfl) (by kernel_rfl) ?q3 ?y3 (by assumption) ?_
  case h3 => (simp only [List.getElem?_toArray, List.getElem?_cons_succ, List.getElem?_cons_zero]; try rfl)
  case q3 => exact fun _ _ _ h => h
  case y3 => refine Or.inl ⟨by rfl, ?_⟩; (intro w hSw; (try dsimp only at hSw); go_simp; try with_reducible rfl)
  try simp only [Act.put, List.setIfInBounds_toArray, List.set_cons_zero, List.set_cons_succ]
  refine wpAnyH_take (i := 3) (oi := ?o4) (v := ?v4) ?h4 (by kernel_rfl) (by kernel_rfl) (by kernel_rfl) ?q4 ?y4 (by assumption) ?_
  case h4 => (simp only [List.getElem?_toArray, List.getElem?_cons_succ, List.getElem?_cons_zero]; try rfl)
  case q4 => exact fun _ _ _ h => h
  case y4 => refine Or.inl ⟨by rfl, ?_⟩; (intro w hSw; (try dsimp only at hSw); go_simp; try with_reducible rfl)
  try simp only [Act.put, List.setIfInBounds_toArray, List.set_cons_zero, List.set_cons_succ]
  refine wpAnyH_take (i := 4) (oi := ?o5) (v := ?v5) ?h5 (by kernel_rfl) (by kernel_rfl) (by kernel_rfl) ?q5 ?y5 (by assumption) ?_
  case h5 => (simp only [List.getElem?_toArray, List.getElem?_cons_succ, List.getElem?_cons_zero]; try rfl)
  case q5 => exact fun _ _ _ h => h
  case y5 => refine Or.inl ⟨by rfl, ?_⟩; (intro w hSw; (try dsimp only at hSw); go_simp; try with_reducible rfl)
  try simp only [Act.put, List.setIfInBounds_toArray, List.set_cons_zero, List.set_cons_succ]
  refine wpAnyH_take (i := 5) (oi := ?o6) (v := ?v6) ?h6 (by kernel_rfl) (by kernel_rfl) (by kernel_rfl) ?q6 ?y6 (by assumption) ?_
  case h6 => (simp only [List.getElem?_toArray, List.getElem?_cons_succ, List.getElem?_cons_zero]; try rfl)
  case q6 => exact fun _ _ _ h => h
  case y6 => refine Or.inl ⟨by rfl, ?_⟩; (intro w hSw; (try dsimp only at hSw); go_simp; try with_reducible rfl)
  try simp only [Act.put, List.setIfInBounds_toArray, List.set_cons_zero, List.set_cons_succ]
  refine wpAnyH_take (i := 6) (oi := ?o7) (v := ?v7) ?h7 (by kernel_rfl) (by kernel_rfl) (by kernel_rfl) ?q7 ?y7 (by assumption) ?_
  case h7 => (simp only [List.getElem?_toArray, List.getElem?_cons_succ, List.getElem?_cons_zero]; try rfl)
  case q7 => exact fun _ _ _ h => h
  case y7 => refine Or.inl ⟨by rfl, ?_⟩; (intro w hSw; (try dsimp only at hSw); go_simp; try with_reducible rfl)
  try simp only [Act.put, List.setIfInBounds_toArray, List.set_cons_zero, List.set_cons_succ]
  refine wpAnyH_take (i := 7) (oi := ?o8) (v := ?v8) ?h8 (by kernel_rfl) (by kernel_rfl) (by kernel_rfl) ?q8 ?y8 (by assumption) ?_
  case h8 => (simp only [List.getElem?_toArray, List.getElem?_cons_succ, List.getElem?_cons_zero]; try rfl)
  case q8 => exact fun _ _ _ h => h
  case y8 => refine Or.inl ⟨by rfl, ?_⟩; (intro w hSw; (try dsimp only at hSw); go_simp; try with_reducible rfl)
  try simp only [Act.put, List.setIfInBounds_toArray, List.set_cons_zero, List.set_cons_succ]
  refine wpAnyH_take (i := 8) (oi := ?o9) (v := ?v9) ?h9 (by kernel_rfl) (by kernel_rfl) (by kernel_rfl) ?q9 ?y9 (by assumption) ?_
  case h9 => (simp only [List.getElem?_toArray, List.getElem?_cons_succ, List.getElem?_cons_zero]; try rfl)
  case q9 => exact fun _ _ _ h => h
  case y9 => refine Or.inl ⟨by rfl, ?_⟩; (intro w hSw; (try dsimp only at hSw); go_simp; try with_reducible rfl)
  try simp only [Act.put, List.setIfInBounds_toArray, List.set_cons_zero, List.set_cons_succ]
  refine wpAnyH_take (i := 9) (oi := ?o10) (v := ?v10) ?h10 (by kernel_rfl) (by kernel_rfl) (by kernel_rfl) ?q10 ?y10 (by assumption) ?_
  case h10 => (simp only [List.getElem?_toArray, List.getElem?_cons_succ, List.getElem?_cons_zero]; try rfl)
  case q10 => exact fun _ _ _ h => h
  case y10 => refine Or.inl ⟨by rfl, ?_⟩; (intro w hSw; (try dsimp only at hSw); go_simp; try with_reducible rfl)
  try simp only [Act.put, List.setIfInBounds_toArray, List.set_cons_zero, List.set_cons_succ]
  refine wpAnyH_take (i := 10) (oi := ?o11) (v := ?v11) ?h11 (by kernel_rfl) (by kernel_rfl) (by kernel_rfl) ?q11 ?y11 (by assumption) ?_
  case h11 => (simp only [List.getElem?_toArray, List.getElem?_cons_succ, List.getElem?_cons_zero]; try rfl)
  case q11 => exact fun _ _ _ h => h
  case y11 => refine Or.inl ⟨by rfl, ?_⟩; (intro w hSw; (try dsimp only at hSw); go_simp; try with_reducible rfl)
  try simp only [Act.put, List.setIfInBounds_toArray, List.set_cons_zero, List.set_cons_succ]
  refine wpAnyH_take (i := 12) (oi := ?o12) (v := ?v12) ?h12 (by kernel_rfl) (by kernel_rfl) (by kernel_rfl) ?q12 ?y12 (by assumption) ?_
  case h12 => (simp only [List.getElem?_toArray, List.getElem?_cons_succ, List.getElem?_cons_zero]; try rfl)
  case q12 => exact fun _ _ _ h => h
  case y12 => refine Or.inl ⟨by rfl, ?_⟩; (intro w hSw; (try dsimp only at hSw); go_simp; try with_reducible rfl)
  try simp only [Act.put, List.setIfInBounds_toArray, List.set_cons_zero, List.set_cons_succ]
  refine wpAnyH_take (i := 13) (oi := ?o13) (v := ?v13) ?h13 (by kernel_rfl) (by kernel_rfl) (by kernel_rfl) ?q13 ?y13 (by assumption) ?_
  case h13 => (simp only [List.getElem?_toArray, List.getElem?_cons_succ, List.getElem?_cons_zero]; try rfl)
  case q13 => exact fun _ _ _ h => h
  case y13 => refine Or.inl ⟨by rfl, ?_⟩; (intro w hSw; (try dsimp only at hSw); go_simp; try with_reducible rfl)
  try simp only [Act.put, List.setIfInBounds_toArray, List.set_cons_zero, List.set_cons_succ]
  refine wpAnyH_take (i := 14) (oi := ?o14) (v := ?v14) ?h14 (by kernel_rfl) (by kernel_rfl) (by kernel_rfl) ?q14 ?y14 (by assumption) ?_
  case h14 => (simp only [List.getElem?_toArray, List.getElem?_cons_succ, List.getElem?_cons_zero]; try rfl)
  case q14 => exact fun _ _ _ h => h
  case y14 => refine Or.inl ⟨by rfl, ?_⟩; (intro w hSw; (try dsimp only at hSw); go_simp; try with_reducible rfl)
  try simp only [Act.put, List.setIfInBounds_toArray, List.set_cons_zero, List.set_cons_succ]
  refine wpAnyH_ready (rs := [11]) (by kernel_rfl) (by simp) ?_
  refine (AllReadyH.cons (i := 11) (o := ?o15) ?h15 (fun K hK => ?k15) AllReadyH.nil)
  case h15 => (simp only [List.getElem?_toArray, List.getElem?_cons_succ, List.getElem?_cons_zero]; try rfl)
  case k15 =>
    go_simp
    ((with_reducible refine (CC.out _ (Below.refl _ _).drew).mono ?_); rintro e w5 ⟨rfl, rfl⟩)
    try go_wp2_with fail
    refine hK.out _ _ ?_ (fun hHeld => ?_)
    · exact hHeld
    clear hK K
    try simp only [Act.put, List.setIfInBounds_toArray, List.set_cons_zero, List.set_cons_succ]
    refine wpAnyH_take (i := 15) (oi := ?o16) (v := ?v16) ?h16 (by kernel_rfl) (by kernel_rfl) (by kernel_rfl) ?q16 ?y16 (by assumption) ?_
    case h16 => (simp only [List.getElem?_toArray, List.getElem?_cons_succ, List.getElem?_cons_zero]; try rfl)
    case q16 => exact fun _ _ _ h => h
    case y16 => refine Or.inl ⟨by rfl, ?_⟩; (intro w hSw; (try dsimp only at hSw); go_simp; try with_reducible rfl)
    try simp only [Act.put, List.setIfInBounds_toArray, List.set_cons_zero, List.set_cons_succ]
    refine wpAnyH_take (i := 16) (oi := ?o17) (v := ?v17) ?h17 (by kernel_rfl) (by kernel_rfl) (by kernel_rfl) ?q17 ?y17 (by assumption) ?_
    case h17 => (simp only [List.getElem?_toArray, List.getElem?_cons_succ, List.getElem?_cons_zero]; try rfl)
    case q17 => exact fun _ _ _ h => h
    case y17 => refine Or.inl ⟨by rfl, ?_⟩; (intro w hSw; (try dsimp only at hSw); go_simp; try with_reducible rfl)
    try simp only [Act.put, List.setIfInBounds_toArray, List.set_cons_zero, List.set_cons_succ]
    refine wpAnyH_take (i := 17) (oi := ?o18) (v := ?v18) ?h18 (by kernel_rfl) (by kernel_rfl) (by kernel_rfl) ?q18 ?y18 (by assumption) ?_
    case h18 => (simp only [List.getElem?_toArray, List.getElem?_cons_succ, List.getElem?_cons_zero]; try rfl)
    case q18 => exact fun _ _ _ h => h
    case y18 => refine Or.inl ⟨by rfl, ?_⟩; (intro w hSw; (try dsimp only at hSw); go_simp; try with_reducible rfl)
    try simp only [Act.put, List.setIfInBounds_toArray, List.set_cons_zero, List.set_cons_succ]
    refine wpAnyH_take (i := 18) (oi := ?o19) (v := ?v19) ?h19 (by kernel_rfl) (by kernel_rfl) (by kernel_rfl) ?q19 ?y19 (by assumption) ?_
    case h19 => (simp only [List.getElem?_toArray, List.getElem?_cons_succ, List.getElem?_cons_zero]; try rfl)
    case q19 => exact fun _ _ _ h => h
    case y19 => refine Or.inl ⟨by rfl, ?_⟩; (intro w hSw; (try dsimp only at hSw); go_simp; try with_reducible rfl)
    try simp only [Act.put, List.setIfInBounds_toArray, List.set_cons_zero, List.set_cons_succ]
    refine wpAnyH_take (i := 19) (oi := ?o20) (v := ?v20) ?h20 (by kernel_rfl) (by kernel_rfl) (by kernel_rfl) ?q20 ?y20 (by assumption) ?_
    case h20 => (simp only [List.getElem?_toArray, List.getElem?_cons_succ, List.getElem?_cons_zero]; try rfl)
    case q20 => exact fun _ _ _ h => h
    case y20 => refine Or.inl ⟨by rfl, ?_⟩; (intro w hSw; (try dsimp only at hSw); go_simp; try with_reducible rfl)
    try simp only [Act.put, List.setIfInBounds_toArray, List.set_cons_zero, List.set_cons_succ]
    refine wpAnyH_take (i := 20) (oi := ?o21) (v := ?v21) ?h21 (by kernel_rfl) (by kernel_rfl) (by kernel_rfl) ?q21 ?y21 (by assumption) ?_
    case h21 => (simp only [List.getElem?_toArray, List.getElem?_cons_succ, List.getElem?_cons_zero]; try rfl)
    case q21 => exact fun _ _ _ h => h
    case y21 => refine Or.inl ⟨by rfl, ?_⟩; (intro w hSw; (try dsimp only at hSw); go_simp; try with_reducible rfl)
    try simp only [Act.put, List.setIfInBounds_toArray, List.set_cons_zero, List.set_cons_succ]
    refine wpAnyH_ready (rs := [21]) (by kernel_rfl) (by simp) ?_
    refine (AllReadyH.cons (i := 21) (o := ?o22) ?h22 (fun K hK => ?k22) AllReadyH.nil)
    case h22 => (simp only [List.getElem?_toArray, List.getElem?_cons_succ, List.getElem?_cons_zero]; try rfl)
    case k22 =>
      go_simp
      ((with_reducible refine (TC.out _ (Below.refl _ _).drew).mono ?_); rintro e w9 ⟨rfl, hb9⟩; obtain ⟨x0, x1, x2, x3⟩ := (HB6.out.drew.below hb9 HB6.out.lt).two; have hb9 := Lib.hid hb9)
      try go_wp2_with fail
      refine hK.out _ _ ?_ (fun hHeld => ?_)
      · exact SX.out _ (Below.drew_ hb9.out)
      clear hK K
      try simp only [Act.put, List.setIfInBounds_toArray, List.set_cons_zero, List.set_cons_succ]
      refine wpAnyH_take (i := 22) (oi := ?o23) (v := ?v23) ?h23 (by kernel_rfl) (by kernel_rfl) (by kernel_rfl) ?q23 ?y23 (by assumption) ?_
      case h23 => (simp only [List.getElem?_toArray, List.getElem?_cons_succ, List.getElem?_cons_zero]; try rfl)
      case q23 => exact fun _ _ _ h => h
      case y23 => refine Or.inl ⟨by rfl, ?_⟩; (intro w hSw; (try dsimp only at hSw); go_simp; try with_reducible rfl)
      try simp only [Act.put, List.setIfInBounds_toArray, List.set_cons_zero, List.set_cons_succ]
      refine wpAnyH_ready (rs := [23]) (by kernel_rfl) (by simp) ?_
      refine (AllReadyH.cons (i := 23) (o := ?o24) ?h24 (fun K hK => ?k24) AllReadyH.nil)
      case h24 => (simp only [List.getElem?_toArray, List.getElem?_cons_succ, List.getElem?_cons_zero]; try rfl)
      case k24 =>
        go_simp
        try go_wp2_with fail
        refine hK.out _ _ ?_ (fun hHeld => ?_)
        · exact SY.out _ (Below.drew_ hb9.out)
        clear hK K
        try simp only [Act.put, List.setIfInBounds_toArray, List.set_cons_zero, List.set_cons_succ]
        refine wpAnyH_take (i := 24) (oi := ?o25) (v := ?v25) ?h25 (by kernel_rfl) (by kernel_rfl) (by kernel_rfl) ?q25 ?y25 (by assumption) ?_
        case h25 => (simp only [List.getElem?_toArray, List.getElem?_cons_succ, List.getElem?_cons_zero]; try rfl)
        case q25 => exact fun _ _ _ h => h
        case y25 => refine Or.inl ⟨by rfl, ?_⟩; (intro w hSw; (try dsimp only at hSw); go_simp; try with_reducible rfl)
        try simp only [Act.put, List.setIfInBounds_toArray, List.set_cons_zero, List.set_cons_succ]
        refine wpAnyH_done (by kernel_rfl) ?_ _
        go_wp2
        refine bodyPost_ret (v := .tuple #[.agg #[.int .i64 most, .slice A2 (stepP most L ⟨0, shape, flags, proto, key⟩).1.length c2], .bool true]) (by simp [results, Try.results9, go_sem, x0, x1]) rfl ⟨_, _, _, rfl, ?_, ?_, ?_⟩
        · exact ((HT.out.below (Below.drew_ hb9.out)).set32 (HB6.out.drew.below hb9.out HB6.out.lt) (by have := HB.out; omega) _ _).set32 ((HB6.out.drew.below hb9.out HB6.out.lt).set_ 0 _) (by have := HB.out; omega) _ _
        · exact ((HR.out.keep (Kept.below (Below.drew_ hb9.out) HWB.out)).set32 (HB6.out.drew.below hb9.out HB6.out.lt) (by have := HB.out; omega) _ _).set32 ((HB6.out.drew.below hb9.out HB6.out.lt).set_ 0 _) (by have := HB.out; omega) _ _
        · exact ((HK.out.trans (Kept.below (Below.drew_ hb9.out) HWB.out)).setNew (by omega) (by have := HB.out; omega) _).setNew (by omega) (by have := HB.out; omega) _
set_option maxRecDepth 100000 in
set_option maxHeartbeats 16000000 in
theorem step1_calls (w : World) (B g : Nat) (most : Int) (A : Option Addr) (n c : Nat) (L : List Sh) (h : TreeIs w B g most L) (hr : RTree B w A n L) (hW : WF L) (shape flags proto : Int) (key : ByteArray) (ho : (⟨1, shape, flags, proto, key⟩ : Opp).Ok) (hb : 2 * L.length + 2 ≤ 1000000000000) (hb2 : (stepP most L ⟨1, shape, flags, proto, key⟩).1.length ≤ 1000000000000) (hW2 : WF (stepP most L ⟨1, shape, flags, proto, key⟩).1) :
    Calls Try.prog 9 #[.pointer (some ⟨g, 0, none⟩), .agg #[.int .i64 most, .slice A n c], .agg #[.int .i64 1, .int .i64 shape, .int .i64 flags, .int .u64 proto, .string key]] w (StepGives w B g most (stepP most L ⟨1, shape, flags, proto, key⟩).1) := by
  have hst : stepP most L ⟨1, shape, flags, proto, key⟩ = addP most L shape key flags := by unfold stepP; simp
  have PC := Lib.hid (fun w1 (h1 : TreeIs w1 B g most L) => have hb1 : L.length ≤ 1000000000000 := by omega
    show Calls Try.prog 10 #[.pointer (some ⟨g, 0, none⟩), .int .i64 shape, .string key, .int .i64 flags] w1 (Gives w1 B g most (stepP most L ⟨1, shape, flags, proto, key⟩)) from hst.symm ▸ add_calls w1 B g most L h1 hW shape key flags ho.key ho.flags hb1)
  have RC := Lib.hid (fun w1 (h1 : RTree B w1 A n L) (hB1 : B ≤ w1.heap.size) => have hb1 : L.length ≤ 1000000000000 := by omega
    show Calls Try.prog 17 #[.agg #[.int .i64 most, .slice A n c], .int .i64 shape, .string key, .int .i64 flags] w1 (RGives w1 B most (stepP most L ⟨1, shape, flags, proto, key⟩)) from hst.symm ▸ radd_calls w1 B most A n c L h1 hW shape key flags hB1 hb1)
  have hB := h.base
  have W1 := below_alloc (o := .cells #[.int .i64 most, .slice A n c] 32) (Below.refl w.heap.size w)
  have W2 := below_alloc (o := .cells #[.int .i64 1, .int .i64 shape, .int .i64 flags, .int .u64 proto, .string key] 25) W1
  have W3 := below_alloc (o := .cells #[.int .i64 0, .slice none 0 0] 32) W2
  have W4 := below_alloc (o := .cells #[.int .i64 most, .slice A n c] 32) W3
  have b4 := (((Blk.new w 32 #[.int .i64 most, .slice A n c]).alloc (.cells #[.int .i64 1, .int .i64 shape, .int .i64 flags, .int .u64 proto, .string key] 25)).alloc (.cells #[.int .i64 0, .slice none 0 0] 32)).alloc (.cells #[.int .i64 most, .slice A n c] 32)
  have b5 := ((Blk.new (w.alloc (.cells #[.int .i64 most, .slice A n c] 32)) 25 #[.int .i64 1, .int .i64 shape, .int .i64 flags, .int .u64 proto, .string key]).alloc (.cells #[.int .i64 0, .slice none 0 0] 32)).alloc (.cells #[.int .i64 most, .slice A n c] 32)
  have b6 := (Blk.new ((w.alloc (.cells #[.int .i64 most, .slice A n c] 32)).alloc (.cells #[.int .i64 1, .int .i64 shape, .int .i64 flags, .int .u64 proto, .string key] 25)) 32 #[.int .i64 0, .slice none 0 0]).alloc (.cells #[.int .i64 most, .slice A n c] 32)
  have b12 := Blk.new (((w.alloc (.cells #[.int .i64 most, .slice A n c] 32)).alloc (.cells #[.int .i64 1, .int .i64 shape, .int .i64 flags, .int .u64 proto, .string key] 25)).alloc (.cells #[.int .i64 0, .slice none 0 0] 32)) 32 #[.int .i64 most, .slice A n c]
  simp only [size_alloc] at b5 b6 b12
  have hT4 := h.below W4
  have hR4 := hr.keep (Kept.below W4 hB)
  have hB4 := Nat.le_trans hB W4.size
  have HW4 := Lib.hid W4
  have Hb4 := Lib.hid b4
  have Hb5 := Lib.hid b5
  have Hb6 := Lib.hid b6
  have Hb12 := Lib.hid b12
  have HT4 := Lib.hid hT4
  have HR4 := Lib.hid hR4
  have HB4 := Lib.hid hB4
  have HB := Lib.hid hB
  have HW2 := Lib.hid hW2
  have Hb2 := Lib.hid hb2
  obtain ⟨z0, z1, z2, z3, z4⟩ := b5.five
  obtain ⟨y0, y1, _, _⟩ := b4.two
  obtain ⟨x0, x1, x2, x3⟩ := b12.two
  clear h hr hW ho hb hb2 hW2 hB W1 W2 W3 W4 b4 b5 b6 b12 hT4 hR4 hB4
  clear hst
  go_enter Try.func9, Try.ntmps9
  go_wp2_with (first | (go_at_call 10; (with_reducible refine (PC.out _ HT4.out).mono ?_); rintro e w1 ⟨rfl, ht1, k1⟩; obtain ⟨z0, z1, z2, z3, z4⟩ := (k1.blk Hb5.out (by decide) (by decide)).five; obtain ⟨y0, y1, _, _⟩ := (k1.blk Hb4.out (by decide) (by decide)).two; have ht1 := Lib.hid ht1; have k1 := Lib.hid k1) |
    (go_at_call 17; (with_reducible refine (RC.out _ (HR4.out.keep k1.out) (Nat.le_trans HB4.out k1.out.bel.size)).mono ?_); rintro e w2 ⟨A2, n2, c2, rfl, ht2, hb2⟩; obtain ⟨x0, x1, x2, x3⟩ := ((k1.out.blk Hb12.out (by decide) (by decide)).below hb2 (k1.out.blk Hb12.out (by decide) (by decide)).lt).two; have ht2 := Lib.hid ht2; have hb2 := Lib.hid hb2))
  have h12 := (k1.out.blk Hb12.out (by decide) (by decide)).below hb2.out (k1.out.blk Hb12.out (by decide) (by decide)).lt
  have h5 := (k1.out.blk Hb5.out (by decide) (by decide)).below hb2.out (k1.out.blk Hb5.out (by decide) (by decide)).lt
  have h6 := (k1.out.blk Hb6.out (by decide) (by decide)).below hb2.out (k1.out.blk Hb6.out (by decide) (by decide)).lt
  have hT2 := ht1.out.below hb2.out
  have hB12 : B ≤ w.heap.size + 1 + 1 + 1 := by have := HB.out; omega
  have hT3 := (hT2.set32 h12 hB12 0 (.int .i64 most)).set32 (h12.set_ 0 _) hB12 1 (.slice A2 n2 c2)
  have hR3 := (ht2.out.set32 h12 hB12 0 (.int .i64 most)).set32 (h12.set_ 0 _) hB12 1 (.slice A2 n2 c2)
  have hK3 := ((((Kept.below HW4.out HB.out).trans k1.out).trans (Kept.below hb2.out ht1.out.base)).setNew (k := w.heap.size + 1 + 1 + 1) (i := 0) (by omega) hB12 (.int .i64 most)).setNew (k := w.heap.size + 1 + 1 + 1) (i := 1) (by omega) hB12 (.slice A2 n2 c2)
  have h12' := (h12.set_ 0 (.int .i64 most)).set_ 1 (.slice A2 n2 c2)
  have h5' := (h5.afar (k := w.heap.size + 1 + 1 + 1) (i := 0) (by omega) (.int .i64 most)).afar (k := w.heap.size + 1 + 1 + 1) (i := 1) (by omega) (.slice A2 n2 c2)
  have h6' := (h6.afar (k := w.heap.size + 1 + 1 + 1) (i := 0) (by omega) (.int .i64 most)).afar (k := w.heap.size + 1 + 1 + 1) (i := 1) (by omega) (.slice A2 n2 c2)
  obtain rfl := hR3.len
  clear PC RC HW4 Hb4 Hb5 Hb6 Hb12 HT4 HR4 HB4 z0 z1 z2 z3 z4 y0 y1 x0 x1 x2 x3 ht1 k1 ht2 hb2 h12 h5 h6 hT2
  generalize (w2.setCell ⟨w.heap.size + 1 + 1 + 1, 0, none⟩ (.int .i64 most)).setCell ⟨w.heap.size + 1 + 1 + 1, 1, none⟩ (.slice A2 _ c2) = W at *
  have HT := Lib.hid hT3
  have HR := Lib.hid hR3
  have HK := Lib.hid hK3
  have HB6 := Lib.hid h6'
  have HWB := Lib.hid hT3.base
  have CC := Lib.hid (fun w' (b : Below W.heap.size W w') => tree_count (hT3.below b))
  have TC := Lib.hid (fun w' (b : Below W.heap.size W w') => show Calls Try.prog 22 #[.pointer (some ⟨g, 0, none⟩), .agg #[.int .i64 most, .slice A2 (stepP most L ⟨1, shape, flags, proto, key⟩).1.length c2], .agg #[.int .i64 1, .int .i64 shape, .int .i64 flags, .int .u64 proto, .string key]] w' _ from told_calls w' B g most A2 _ c2 _ (hT3.below b) (hR3.keep (Kept.below b hT3.base)) HW2.out ⟨1, shape, flags, proto, key⟩ Hb2.out)
  have SX := Lib.hid (fun w' (b : Below W.heap.size W w') => show (fun w' => w'.cell? ⟨w.heap.size + 1 + 1 + 1, 0, none⟩ = some (.int .i64 most) ∧ w'.cell? ⟨w.heap.size + 1 + 1 + 1, 1, none⟩ = some (.slice A2 (stepP most L ⟨1, shape, flags, proto, key⟩).1.length c2) ∧ w'.cell? ⟨w.heap.size + 1, 0, none⟩ = some (.int .i64 1) ∧ w'.cell? ⟨w.heap.size + 1, 1, none⟩ = some (.int .i64 shape) ∧ w'.cell? ⟨w.heap.size + 1, 2, none⟩ = some (.int .i64 flags) ∧ w'.cell? ⟨w.heap.size + 1, 3, none⟩ = some (.int .u64 proto) ∧ w'.cell? ⟨w.heap.size + 1, 4, none⟩ = some (.string key)) w' from
    ⟨(b.cell (p := ⟨w.heap.size + 1 + 1 + 1, 0, none⟩) h12'.lt).trans (h12'.cell 0), (b.cell (p := ⟨w.heap.size + 1 + 1 + 1, 1, none⟩) h12'.lt).trans (h12'.cell 1), (b.cell (p := ⟨w.heap.size + 1, 0, none⟩) h5'.lt).trans (h5'.cell 0), (b.cell (p := ⟨w.heap.size + 1, 1, none⟩) h5'.lt).trans (h5'.cell 1), (b.cell (p := ⟨w.heap.size + 1, 2, none⟩) h5'.lt).trans (h5'.cell 2), (b.cell (p := ⟨w.heap.size + 1, 3, none⟩) h5'.lt).trans (h5'.cell 3), (b.cell (p := ⟨w.heap.size + 1, 4, none⟩) h5'.lt).trans (h5'.cell 4)⟩)
  have SY := Lib.hid (fun w' (b : Below W.heap.size W w') => show (fun w' => w'.cell? ⟨w.heap.size + 1 + 1 + 1, 0, none⟩ = some (.int .i64 most) ∧ w'.cell? ⟨w.heap.size + 1 + 1 + 1, 1, none⟩ = some (.slice A2 (stepP most L ⟨1, shape, flags, proto, key⟩).1.length c2) ∧ w'.cell? ⟨w.heap.size + 1, 0, none⟩ = some (.int .i64 1) ∧ w'.cell? ⟨w.heap.size + 1, 1, none⟩ = some (.int .i64 shape) ∧ w'.cell? ⟨w.heap.size + 1, 2, none⟩ = some (.int .i64 flags) ∧ w'.cell? ⟨w.heap.size + 1, 3, none⟩ = some (.int .u64 proto) ∧ w'.cell? ⟨w.heap.size + 1, 4, none⟩ = some (.string key)) ((w'.setCell ⟨w.heap.size + 1 + 1, 0, none⟩ (.int .i64 most)).setCell ⟨w.heap.size + 1 + 1, 1, none⟩ (.slice A2 (stepP most L ⟨1, shape, flags, proto, key⟩).1.length c2)) from
    have k12 := ((h12'.below b h12'.lt).afar (k := w.heap.size + 1 + 1) (i := 0) (by omega) (.int .i64 most)).afar (k := w.heap.size + 1 + 1) (i := 1) (by omega) (.slice A2 (stepP most L ⟨1, shape, flags, proto, key⟩).1.length c2)
    have k5 := ((h5'.below b h5'.lt).afar (k := w.heap.size + 1 + 1) (i := 0) (by omega) (.int .i64 most)).afar (k := w.heap.size + 1 + 1) (i := 1) (by omega) (.slice A2 (stepP most L ⟨1, shape, flags, proto, key⟩).1.length c2)
    ⟨k12.cell 0, k12.cell 1, k5.cell 0, k5.cell 1, k5.cell 2, k5.cell 3, k5.cell 4⟩)
  clear hT3 hR3 hK3 h12' h5' h6' HW2 Hb2
  refine wp_region_held_drew (S := (fun w' => w'.cell? ⟨w.heap.size + 1 + 1 + 1, 0, none⟩ = some (.int .i64 most) ∧ w'.cell? ⟨w.heap.size + 1 + 1 + 1, 1, none⟩ = some (.slice A2 (stepP most L ⟨1, shape, flags, proto, key⟩).1.length c2) ∧ w'.cell? ⟨w.heap.size + 1, 0, none⟩ = some (.int .i64 1) ∧ w'.cell? ⟨w.heap.size + 1, 1, none⟩ = some (.int .i64 shape) ∧ w'.cell? ⟨w.heap.size + 1, 2, none⟩ = some (.int .i64 flags) ∧ w'.cell? ⟨w.heap.size + 1, 3, none⟩ = some (.int .u64 proto) ∧ w'.cell? ⟨w.heap.size + 1, 4, none⟩ = some (.string key))) (by kernel_rfl) ?_ (fun hHeld => ?_)
  · exact SX.out _ (Below.refl _ _).drew
  refine wpAnyH_take (i := 0) (oi := ?o1) (v := ?v1) ?h1 (by kernel_rfl) (by kernel_rfl) (by kernel_rfl) ?q1 ?y1 (by assumption) ?_
  case h1 => (simp only [List.getElem?_toArray, List.getElem?_cons_succ, List.getElem?_cons_zero]; try rfl)
  case q1 => exact fun _ _ _ h => h
  case y1 => refine Or.inl ⟨by rfl, ?_⟩; (intro w hSw; (try dsimp only at hSw); go_simp; try with_reducible rfl)
  try simp only [Act.put, List.setIfInBounds_toArray, List.set_cons_zero, List.set_cons_succ]
  refine wpAnyH_take (i := 1) (oi := ?o2) (v := ?v2) ?h2 (by kernel_rfl) (by kernel_rfl) (by kernel_rfl) ?q2 ?y2 (by assumption) ?_
  case h2 => (simp only [List.getElem?_toArray, List.getElem?_cons_succ, List.getElem?_cons_zero]; try rfl)
  case q2 => exact fun _ _ _ h => h
  case y2 => refine Or.inl ⟨by rfl, ?_⟩; (intro w hSw; (try dsimp only at hSw); go_simp; try with_reducible rfl)
  try simp only [Act.put, List.setIfInBounds_toArray, List.set_cons_zero, List.set_cons_succ]
  refine wpAnyH_take (i := 2) (oi := ?o3) (v := ?v3) ?h3 (by kernel_rfl) (by kernel_rfl) (by kernel_rfl) ?q3 ?y3 (by assumption) ?_
  case h3 => (simp only [List.getElem?_toArray, List.getElem?_cons_succ, List.getElem?_cons_zero]; try rfl)
  case q3 => exact fun _ _ _ h => h
  case y3 => refine Or.inl ⟨by rfl, ?_⟩; (intro w hSw; (try dsimp only at hSw); go_simp; try with_reducible rfl)
  try simp only [Act.put, List.setIfInBounds_toArray, List.set_cons_zero, List.set_cons_succ]
  refine wpAnyH_take (i := 3) (oi := ?o4) (v := ?v4) ?h4 (by kernel_rfl) (by kernel_rfl) (by kernel_rfl) ?q4 ?y4 (by assumption) ?_
  case h4 => (simp only [List.getElem?_toArray, List.getElem?_cons_succ, List.getElem?_cons_zero]; try rfl)
  case q4 => exact fun _ _ _ h => h
  case y4 => refine Or.inl ⟨by rfl, ?_⟩; (intro w hSw; (try dsimp only at hSw); go_simp; try with_reducible rfl)
  try simp only [Act.put, List.setIfInBounds_toArray, List.set_cons_zero, List.set_cons_succ]
  refine wpAnyH_take (i := 4) (oi := ?o5) (v := ?v5) ?h5 (by kernel_rfl) (by kernel_rfl) (by kernel_rfl) ?q5 ?y5 (by assumption) ?_
  case h5 => (simp only [List.getElem?_toArray, List.getElem?_cons_succ, List.getElem?_cons_zero]; try rfl)
  case q5 => exact fun _ _ _ h => h
  case y5 => refine Or.inl ⟨by rfl, ?_⟩; (intro w hSw; (try dsimp only at hSw); go_simp; try with_reducible rfl)
  try simp only [Act.put, List.setIfInBounds_toArray, List.set_cons_zero, List.set_cons_succ]
  refine wpAnyH_take (i := 5) (oi := ?o6) (v := ?v6) ?h6 (by kernel_rfl) (by kernel_rfl) (by kernel_rfl) ?q6 ?y6 (by assumption) ?_
  case h6 => (simp only [List.getElem?_toArray, List.getElem?_cons_succ, List.getElem?_cons_zero]; try rfl)
  case q6 => exact fun _ _ _ h => h
  case y6 => refine Or.inl ⟨by rfl, ?_⟩; (intro w hSw; (try dsimp only at hSw); go_simp; try with_reducible rfl)
  try simp only [Act.put, List.setIfInBounds_toArray, List.set_cons_zero, List.set_cons_succ]
  refine wpAnyH_take (i := 6) (oi := ?o7) (v := ?v7) ?h7 (by kernel_rfl) (by kernel_rfl) (by kernel_rfl) ?q7 ?y7 (by assumption) ?_
  case h7 => (simp only [List.getElem?_toArray, List.getElem?_cons_succ, List.getElem?_cons_zero]; try rfl)
  case q7 => exact fun _ _ _ h => h
  case y7 => refine Or.inl ⟨by rfl, ?_⟩; (intro w hSw; (try dsimp only at hSw); go_simp; try with_reducible rfl)
  try simp only [Act.put, List.setIfInBounds_toArray, List.set_cons_zero, List.set_cons_succ]
  refine wpAnyH_take (i := 7) (oi := ?o8) (v := ?v8) ?h8 (by kernel_rfl) (by kernel_rfl) (by kernel_rfl) ?q8 ?y8 (by assumption) ?_
  case h8 => (simp only [List.getElem?_toArray, List.getElem?_cons_succ, List.getElem?_cons_zero]; try rfl)
  case q8 => exact fun _ _ _ h => h
  case y8 => refine Or.inl ⟨by rfl, ?_⟩; (intro w hSw; (try dsimp only at hSw); go_simp; try with_reducible rfl)
  try simp only [Act.put, List.setIfInBounds_toArray, List.set_cons_zero, List.set_cons_succ]
  refine wpAnyH_take (i := 8) (oi := ?o9) (v := ?v9) ?h9 (by kernel_rfl) (by kernel_rfl) (by kernel_rfl) ?q9 ?y9 (by assumption) ?_
  case h9 => (simp only [List.getElem?_toArray, List.getElem?_cons_succ, List.getElem?_cons_zero]; try rfl)
  case q9 => exact fun _ _ _ h => h
  case y9 => refine Or.inl ⟨by rfl, ?_⟩; (intro w hSw; (try dsimp only at hSw); go_simp; try with_reducible rfl)
  try simp only [Act.put, List.setIfInBounds_toArray, List.set_cons_zero, List.set_cons_succ]
  refine wpAnyH_take (i := 9) (oi := ?o10) (v := ?v10) ?h10 (by kernel_rfl) (by kernel_rfl) (by kernel_rfl) ?q10 ?y10 (by assumption) ?_
  case h10 => (simp only [List.getElem?_toArray, List.getElem?_cons_succ, List.getElem?_cons_zero]; try rfl)
  case q10 => exact fun _ _ _ h => h
  case y10 => refine Or.inl ⟨by rfl, ?_⟩; (intro w hSw; (try dsimp only at hSw); go_simp; try with_reducible rfl)
  try simp only [Act.put, List.setIfInBounds_toArray, List.set_cons_zero, List.set_cons_succ]
  refine wpAnyH_take (i := 10) (oi := ?o11) (v := ?v11) ?h11 (by kernel_rfl) (by kernel_rfl) (by kernel_rfl) ?q11 ?y11 (by assumption) ?_
  case h11 => (simp only [List.getElem?_toArray, List.getElem?_cons_succ, List.getElem?_cons_zero]; try rfl)
  case q11 => exact fun _ _ _ h => h
  case y11 => refine Or.inl ⟨by rfl, ?_⟩; (intro w hSw; (try dsimp only at hSw); go_simp; try with_reducible rfl)
  try simp only [Act.put, List.setIfInBounds_toArray, List.set_cons_zero, List.set_cons_succ]
  refine wpAnyH_take (i := 12) (oi := ?o12) (v := ?v12) ?h12 (by kernel_rfl) (by kernel_rfl) (by kernel_rfl) ?q12 ?y12 (by assumption) ?_
  case h12 => (simp only [List.getElem?_toArray, List.getElem?_cons_succ, List.getElem?_cons_zero]; try rfl)
  case q12 => exact fun _ _ _ h => h
  case y12 => refine Or.inl ⟨by rfl, ?_⟩; (intro w hSw; (try dsimp only at hSw); go_simp; try with_reducible rfl)
  try simp only [Act.put, List.setIfInBounds_toArray, List.set_cons_zero, List.set_cons_succ]
  refine wpAnyH_take (i := 13) (oi := ?o13) (v := ?v13) ?h13 (by kernel_rfl) (by kernel_rfl) (by kernel_rfl) ?q13 ?y13 (by assumption) ?_
  case h13 => (simp only [List.getElem?_toArray, List.getElem?_cons_succ, List.getElem?_cons_zero]; try rfl)
  case q13 => exact fun _ _ _ h => h
  case y13 => refine Or.inl ⟨by rfl, ?_⟩; (intro w hSw; (try dsimp only at hSw); go_simp; try with_reducible rfl)
  try simp only [Act.put, List.setIfInBounds_toArray, List.set_cons_zero, List.set_cons_succ]
  refine wpAnyH_take (i := 14) (oi := ?o14) (v := ?v14) ?h14 (by kernel_rfl) (by kernel_rfl) (by kernel_rfl) ?q14 ?y14 (by assumption) ?_
  case h14 => (simp only [List.getElem?_toArray, List.getElem?_cons_succ, List.getElem?_cons_zero]; try rfl)
  case q14 => exact fun _ _ _ h => h
  case y14 => refine Or.inl ⟨by rfl, ?_⟩; (intro w hSw; (try dsimp only at hSw); go_simp; try with_reducible rfl)
  try simp only [Act.put, List.setIfInBounds_toArray, List.set_cons_zero, List.set_cons_succ]
  refine wpAnyH_ready (rs := [11]) (by kernel_rfl) (by simp) ?_
  refine (AllReadyH.cons (i := 11) (o := ?o15) ?h15 (fun K hK => ?k15) AllReadyH.nil)
  case h15 => (simp only [List.getElem?_toArray, List.getElem?_cons_succ, List.getElem?_cons_zero]; try rfl)
  case k15 =>
    go_simp
    ((with_reducible refine (CC.out _ (Below.refl _ _).drew).mono ?_); rintro e w5 ⟨rfl, rfl⟩)
    try go_wp2_with fail
    refine hK.out _ _ ?_ (fun hHeld => ?_)
    · exact hHeld
    clear hK K
    try simp only [Act.put, List.setIfInBounds_toArray, List.set_cons_zero, List.set_cons_succ]
    refine wpAnyH_take (i := 15) (oi := ?o16) (v := ?v16) ?h16 (by kernel_rfl) (by kernel_rfl) (by kernel_rfl) ?q16 ?y16 (by assumption) ?_
    case h16 => (simp only [List.getElem?_toArray, List.getElem?_cons_succ, List.getElem?_cons_zero]; try rfl)
    case q16 => exact fun _ _ _ h => h
    case y16 => refine Or.inl ⟨by rfl, ?_⟩; (intro w hSw; (try dsimp only at hSw); go_simp; try with_reducible rfl)
    try simp only [Act.put, List.setIfInBounds_toArray, List.set_cons_zero, List.set_cons_succ]
    refine wpAnyH_take (i := 16) (oi := ?o17) (v := ?v17) ?h17 (by kernel_rfl) (by kernel_rfl) (by kernel_rfl) ?q17 ?y17 (by assumption) ?_
    case h17 => (simp only [List.getElem?_toArray, List.getElem?_cons_succ, List.getElem?_cons_zero]; try rfl)
    case q17 => exact fun _ _ _ h => h
    case y17 => refine Or.inl ⟨by rfl, ?_⟩; (intro w hSw; (try dsimp only at hSw); go_simp; try with_reducible rfl)
    try simp only [Act.put, List.setIfInBounds_toArray, List.set_cons_zero, List.set_cons_succ]
    refine wpAnyH_take (i := 17) (oi := ?o18) (v := ?v18) ?h18 (by kernel_rfl) (by kernel_rfl) (by kernel_rfl) ?q18 ?y18 (by assumption) ?_
    case h18 => (simp only [List.getElem?_toArray, List.getElem?_cons_succ, List.getElem?_cons_zero]; try rfl)
    case q18 => exact fun _ _ _ h => h
    case y18 => refine Or.inl ⟨by rfl, ?_⟩; (intro w hSw; (try dsimp only at hSw); go_simp; try with_reducible rfl)
    try simp only [Act.put, List.setIfInBounds_toArray, List.set_cons_zero, List.set_cons_succ]
    refine wpAnyH_take (i := 18) (oi := ?o19) (v := ?v19) ?h19 (by kernel_rfl) (by kernel_rfl) (by kernel_rfl) ?q19 ?y19 (by assumption) ?_
    case h19 => (simp only [List.getElem?_toArray, List.getElem?_cons_succ, List.getElem?_cons_zero]; try rfl)
    case q19 => exact fun _ _ _ h => h
    case y19 => refine Or.inl ⟨by rfl, ?_⟩; (intro w hSw; (try dsimp only at hSw); go_simp; try with_reducible rfl)
    try simp only [Act.put, List.setIfInBounds_toArray, List.set_cons_zero, List.set_cons_succ]
    refine wpAnyH_take (i := 19) (oi := ?o20) (v := ?v20) ?h20 (by kernel_rfl) (by kernel_rfl) (by kernel_rfl) ?q20 ?y20 (by assumption) ?_
    case h20 => (simp only [List.getElem?_toArray, List.getElem?_cons_succ, List.getElem?_cons_zero]; try rfl)
    case q20 => exact fun _ _ _ h => h
    case y20 => refine Or.inl ⟨by rfl, ?_⟩; (intro w hSw; (try dsimp only at hSw); go_simp; try with_reducible rfl)
    try simp only [Act.put, List.setIfInBounds_toArray, List.set_cons_zero, List.set_cons_succ]
    refine wpAnyH_take (i := 20) (oi := ?o21) (v := ?v21) ?h21 (by kernel_rfl) (by kernel_rfl) (by kernel_rfl) ?q21 ?y21 (by assumption) ?_
    case h21 => (simp only [List.getElem?_toArray, List.getElem?_cons_succ, List.getElem?_cons_zero]; try rfl)
    case q21 => exact fun _ _ _ h => h
    case y21 => refine Or.inl ⟨by rfl, ?_⟩; (intro w hSw; (try dsimp only at hSw); go_simp; try with_reducible rfl)
    try simp only [Act.put, List.setIfInBounds_toArray, List.set_cons_zero, List.set_cons_succ]
    refine wpAnyH_ready (rs := [21]) (by kernel_rfl) (by simp) ?_
    refine (AllReadyH.cons (i := 21) (o := ?o22) ?h22 (fun K hK => ?k22) AllReadyH.nil)
    case h22 => (simp only [List.getElem?_toArray, List.getElem?_cons_succ, List.getElem?_cons_zero]; try rfl)
    case k22 =>
      go_simp
      ((with_reducible refine (TC.out _ (Below.refl _ _).drew).mono ?_); rintro e w9 ⟨rfl, hb9⟩; obtain ⟨x0, x1, x2, x3⟩ := (HB6.out.drew.below hb9 HB6.out.lt).two; have hb9 := Lib.hid hb9)
      try go_wp2_with fail
      refine hK.out _ _ ?_ (fun hHeld => ?_)
      · exact SX.out _ (Below.drew_ hb9.out)
      clear hK K
      try simp only [Act.put, List.setIfInBounds_toArray, List.set_cons_zero, List.set_cons_succ]
      refine wpAnyH_take (i := 22) (oi := ?o23) (v := ?v23) ?h23 (by kernel_rfl) (by kernel_rfl) (by kernel_rfl) ?q23 ?y23 (by assumption) ?_
      case h23 => (simp only [List.getElem?_toArray, List.getElem?_cons_succ, List.getElem?_cons_zero]; try rfl)
      case q23 => exact fun _ _ _ h => h
      case y23 => refine Or.inl ⟨by rfl, ?_⟩; (intro w hSw; (try dsimp only at hSw); go_simp; try with_reducible rfl)
      try simp only [Act.put, List.setIfInBounds_toArray, List.set_cons_zero, List.set_cons_succ]
      refine wpAnyH_ready (rs := [23]) (by kernel_rfl) (by simp) ?_
      refine (AllReadyH.cons (i := 23) (o := ?o24) ?h24 (fun K hK => ?k24) AllReadyH.nil)
      case h24 => (simp only [List.getElem?_toArray, List.getElem?_cons_succ, List.getElem?_cons_zero]; try rfl)
      case k24 =>
        go_simp
        try go_wp2_with fail
        refine hK.out _ _ ?_ (fun hHeld => ?_)
        · exact SY.out _ (Below.drew_ hb9.out)
        clear hK K
        try simp only [Act.put, List.setIfInBounds_toArray, List.set_cons_zero, List.set_cons_succ]
        refine wpAnyH_take (i := 24) (oi := ?o25) (v := ?v25) ?h25 (by kernel_rfl) (by kernel_rfl) (by kernel_rfl) ?q25 ?y25 (by assumption) ?_
        case h25 => (simp only [List.getElem?_toArray, List.getElem?_cons_succ, List.getElem?_cons_zero]; try rfl)
        case q25 => exact fun _ _ _ h => h
        case y25 => refine Or.inl ⟨by rfl, ?_⟩; (intro w hSw; (try dsimp only at hSw); go_simp; try with_reducible rfl)
        try simp only [Act.put, List.setIfInBounds_toArray, List.set_cons_zero, List.set_cons_succ]
        refine wpAnyH_done (by kernel_rfl) ?_ _
        go_wp2
        refine bodyPost_ret (v := .tuple #[.agg #[.int .i64 most, .slice A2 (stepP most L ⟨1, shape, flags, proto, key⟩).1.length c2], .bool true]) (by simp [results, Try.results9, go_sem, x0, x1]) rfl ⟨_, _, _, rfl, ?_, ?_, ?_⟩
        · exact ((HT.out.below (Below.drew_ hb9.out)).set32 (HB6.out.drew.below hb9.out HB6.out.lt) (by have := HB.out; omega) _ _).set32 ((HB6.out.drew.below hb9.out HB6.out.lt).set_ 0 _) (by have := HB.out; omega) _ _
        · exact ((HR.out.keep (Kept.below (Below.drew_ hb9.out) HWB.out)).set32 (HB6.out.drew.below hb9.out HB6.out.lt) (by have := HB.out; omega) _ _).set32 ((HB6.out.drew.below hb9.out HB6.out.lt).set_ 0 _) (by have := HB.out; omega) _ _
        · exact ((HK.out.trans (Kept.below (Below.drew_ hb9.out) HWB.out)).setNew (by omega) (by have := HB.out; omega) _).setNew (by omega) (by have := HB.out; omega) _
end Go.Proofs.Ytchbgececcclgaa
