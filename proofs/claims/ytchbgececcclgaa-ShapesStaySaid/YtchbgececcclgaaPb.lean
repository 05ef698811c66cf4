/- Shapes: the tree of shapes in memory: rows, properties, maps. -/
import Derived.Test.YtchbgececcclgaaPa
import Derived.Maps.Own
import Derived.DeepKeys4
import Derived.Deep.RegionLaw
import Derived.Laws.OwnMore
import Derived.StillTailTactics
import Derived.Lib.SliceRun
namespace Go.Proofs.Ytchbgececcclgaa
open Go.RowKit Go
set_option linter.unusedVariables false
set_option linter.unusedSimpArgs false
/-! rows of many cells -/
section
variable {α : Type} {f : α → List Value} {s : Nat}
theorem flt_length (hf : ∀ x, (f x).length = s) (L : List α) : (L.flatMap f).length = L.length * s := by
  induction L with
  | nil => simp
  | cons x L ih => simp only [List.flatMap_cons, List.length_append, ih, hf, List.length_cons]; rw [Nat.succ_mul]; omega
theorem flt_get (hf : ∀ x, (f x).length = s) {L : List α} {i j : Nat} {x : α} {u : Value} (hi : L[i]? = some x) (hj : (f x)[j]? = some u) : (L.flatMap f)[i * s + j]? = some u := by
  induction L generalizing i with
  | nil => simp at hi
  | cons y L ih =>
    have hjs : j < s := by have := (List.getElem?_eq_some_iff.1 hj).1; rw [hf] at this; exact this
    cases i with
    | zero =>
      simp at hi; subst hi
      rw [List.flatMap_cons, List.getElem?_append_left (by rw [hf]; omega)]
      simpa using hj
    | succ i =>
      rw [List.flatMap_cons, List.getElem?_append_right (by rw [hf, Nat.succ_mul]; omega), hf, show (i + 1) * s + j - s = i * s + j by rw [Nat.succ_mul]; omega]
      exact ih (by simpa using hi)
theorem flt_one (h1 : ∀ x, ∀ u ∈ f x, u.oneCell' = true) (L : List α) : ∀ u ∈ L.flatMap f, u.oneCell' = true := by
  intro u hu
  obtain ⟨x, _, hx⟩ := List.mem_flatMap.1 hu
  exact h1 x u hx
theorem add_at (b off j : Nat) (w : World) {u : Value} (h : w.cell? ((⟨b, off, none⟩ : Addr).add j) = some u) : w.cell? ⟨b, off + j, none⟩ = some u := by
  have e : (⟨b, off, none⟩ : Addr).add j = ⟨b, off + j, none⟩ := by unfold Addr.add; split <;> simp_all
  rw [e] at h; exact h
theorem reads_get (hf : ∀ x, (f x).length = s) (hs : 0 < s) {w : World} {B n : Nat} {A : Option Addr} {L : List α} (h : Reads w B s A n (L.flatMap f)) {i : Nat} {x : α} (hi : L[i]? = some x) :
    ∃ b off, A = some ⟨b, off, none⟩ ∧ b < B ∧ ∀ j u, (f x)[j]? = some u → w.cell? ⟨b, off + i * s + j, none⟩ = some u := by
  have hl := h.1
  rw [flt_length hf] at hl
  have hn : L.length = n := Nat.eq_of_mul_eq_mul_right hs hl
  have hlt : i < L.length := (List.getElem?_eq_some_iff.1 hi).1
  obtain ⟨ad, rfl, hb, hc⟩ := h.2 (by omega)
  obtain ⟨b, off, sp⟩ := ad
  have h0 : 0 < (L.flatMap f).length := by rw [flt_length hf]; exact Nat.mul_pos (by omega) hs
  have hsp : sp = none := by simpa [Addr.add] using World.cell?_spot (hc 0 _ (List.getElem?_eq_getElem h0))
  subst hsp
  exact ⟨b, off, rfl, hb, fun j u hj => by rw [Nat.add_assoc]; exact add_at b off _ w (hc _ _ (flt_get hf hi hj))⟩
theorem reads_len (hf : ∀ x, (f x).length = s) (hs : 0 < s) {w : World} {B n : Nat} {A : Option Addr} {L : List α} (h : Reads w B s A n (L.flatMap f)) : L.length = n := by
  have hl := h.1
  rw [flt_length hf] at hl
  exact Nat.eq_of_mul_eq_mul_right hs hl
theorem own_get (hf : ∀ x, (f x).length = s) (hs : 0 < s) {w : World} {base n : Nat} {e : TypeId} {v : Value} {L : List α} (h : w.ownsRow base e s v n (L.flatMap f)) {i : Nat} {x : α} (hi : L[i]? = some x) :
    ∃ g c, v = .slice (some ⟨g, 0, none⟩) n c ∧ ∀ j u, (f x)[j]? = some u → w.cell? ⟨g, i * s + j, none⟩ = some u := by
  have hl := h.1
  rw [flt_length hf] at hl
  have hn : L.length = n := Nat.eq_of_mul_eq_mul_right hs hl
  have hlt : i < L.length := (List.getElem?_eq_some_iff.1 hi).1
  obtain ⟨g, c, rfl, _, _⟩ := h.form (by omega)
  refine ⟨g, c, rfl, fun j u hj => ?_⟩
  have := add_at g 0 _ w (h.cells (g := g) rfl _ _ (flt_get hf hi hj))
  simpa using this
end
theorem own_below {w w' : World} {base : Nat} {e : TypeId} {s : Nat} {x : Value} {n : Nat} {xs : List Value} (h : Below w.heap.size w w') (ho : w.ownsRow base e s x n xs) : w'.ownsRow base e s x n xs := by
  have hlt := ho.lt
  obtain ⟨h3, h4⟩ := ho
  refine ⟨h3, ?_⟩
  rcases h4 with h4 | ⟨g, cap, cur, e1, e2, e3, e4⟩
  · exact .inl h4
  · exact .inr ⟨g, cap, cur, e1, e2, by rw [h.block g (hlt g (by rw [e1]; rfl)).2]; exact e3, e4⟩
theorem own_base {w : World} {base base' : Nat} {e : TypeId} {s : Nat} {x : Value} {n : Nat} {xs : List Value} (hb : base' ≤ base) (ho : w.ownsRow base e s x n xs) : w.ownsRow base' e s x n xs := by
  obtain ⟨h3, h4⟩ := ho
  refine ⟨h3, ?_⟩
  rcases h4 with h4 | ⟨g, cap, cur, e1, e2, e3, e4⟩
  · exact .inl h4
  · exact .inr ⟨g, cap, cur, e1, by omega, e3, e4⟩
theorem own_made0 (w : World) (e : TypeId) (s : Nat) : (w.alloc (.cells #[] e)).ownsRow w.heap.size e s (.slice (some ⟨w.heap.size, 0, none⟩) 0 0) 0 [] :=
  ⟨by simp, .inr ⟨w.heap.size, 0, #[], rfl, Nat.le_refl _, heap_alloc_new w _, Nat.le_refl _, by unfold maxLen; omega, by simp, by simp⟩⟩

/-! what stays -/
/-- blocks that are older than B, or of a type that is never written again, are as they were. -/
structure Kept (B : Nat) (w w' : World) : Prop where
  bel : Below B w w'
  keep : ∀ b, b < w.heap.size → (b < B ∨ ∃ cs t, w.heap[b]? = some (.cells cs t (0, 0)) ∧ t ≠ 51 ∧ t ≠ 63) → w'.heap[b]? = w.heap[b]?
theorem Kept.refl (B : Nat) (w : World) : Kept B w w := ⟨Below.refl B w, fun _ _ _ => rfl⟩
theorem Kept.trans {B : Nat} {a b c : World} (h : Kept B a b) (k : Kept B b c) : Kept B a c :=
  ⟨h.bel.trans k.bel, fun x hx ho => by
    have e := h.keep x hx ho
    rw [k.keep x (Nat.lt_of_lt_of_le hx h.bel.size) (ho.imp id fun ⟨cs, t, hc⟩ => ⟨cs, t, e.trans hc.1, hc.2⟩), e]⟩
theorem Kept.below {B : Nat} {w w' : World} (h : Below w.heap.size w w') (hB : B ≤ w.heap.size) : Kept B w w' := ⟨h.mono hB, fun b hb _ => h.block b hb⟩
theorem Kept.alloc {B : Nat} {a w : World} (h : Kept B a w) (hB : B ≤ w.heap.size) (o : Obj) : Kept B a (w.alloc o) := h.trans (Kept.below ((Below.refl _ _).alloc (Nat.le_refl _) o) hB)
theorem Kept.drew {B : Nat} {a w : World} (h : Kept B a w) : Kept B a w.drew := ⟨h.bel.drew, h.keep⟩
theorem Kept.drewN {B : Nat} {a w : World} (h : Kept B a w) (n : Nat) : Kept B a (w.drewN n) := ⟨⟨h.bel.os, h.bel.tape, h.bel.output, h.bel.size, h.bel.block⟩, h.keep⟩
/-- a block that may be written: a tree, or a row of shapes, or a map, none older than B. -/
theorem Kept.grown {B : Nat} {w w' : World} {row : Option Nat} (h : w.grownBy w' row) (hB : B ≤ w.heap.size) (hr : ∀ g, row = some g → B ≤ g ∧ ∀ cs t, w.heap[g]? = some (.cells cs t (0, 0)) → t = 51 ∨ t = 63) : Kept B w w' := by
  refine ⟨(Below.refl _ _).grown h hB (fun g hg => (hr g hg).1), fun b hb ho => h.block b hb ?_⟩
  rintro e
  obtain ⟨h1, h2⟩ := hr b e.symm
  rcases ho with ho | ⟨cs, t, hc, n1, n2⟩
  · omega
  · rcases h2 cs t hc with h2 | h2
    · exact n1 h2
    · exact n2 h2
theorem Kept.set_ {B : Nat} {w : World} {p : Addr} {t : TypeId} {cs : Array Value} (hb : Blk w p.block t cs) (ht : t = 51 ∨ t = 63) (hB : B ≤ p.block) (u : Value) : Kept B w (w.setCell p u) := by
  refine ⟨(Below.refl _ _).setCell hB u, fun b hlt ho => Below.heap_setCell w p u b ?_⟩
  rintro rfl
  rcases ho with ho | ⟨cs', t', ho, n1, n2⟩
  · omega
  · unfold Blk at hb; rw [hb] at ho; injection ho with ho; injection ho with _ ho; subst ho; rcases ht with ht | ht
    · exact n1 ht
    · exact n2 ht
/-- a slice that stays as it is: its block is older than B, or of a type that is never written again. -/
def Fix (B : Nat) (w : World) (size : Nat) (A : Option Addr) (n : Nat) (xs : List Value) : Prop :=
  Reads w w.heap.size size A n xs ∧ ∀ ad, A = some ad → 0 < n → ad.block < B ∨ ∃ cs t, w.heap[ad.block]? = some (.cells cs t (0, 0)) ∧ t ≠ 51 ∧ t ≠ 63 ∧ t ≠ 32
/-- .. besides the boxes of the document's trees. -/
structure Kept3 (B : Nat) (w w' : World) : Prop where
  size : w.heap.size ≤ w'.heap.size
  keep : ∀ b, b < w.heap.size → (b < B ∨ ∃ cs t, w.heap[b]? = some (.cells cs t (0, 0)) ∧ t ≠ 51 ∧ t ≠ 63 ∧ t ≠ 32) → w'.heap[b]? = w.heap[b]?
theorem Kept.three {B : Nat} {w w' : World} (h : Kept B w w') : Kept3 B w w' := ⟨h.bel.size, fun b hb ho => h.keep b hb (ho.imp id fun ⟨cs, t, h1, h2, h3, _⟩ => ⟨cs, t, h1, h2, h3⟩)⟩
theorem Kept3.set32 {B : Nat} {w : World} {b : Nat} {cs : Array Value} (hb : Blk w b 32 cs) (hB : B ≤ b) (i : Nat) (u : Value) : Kept3 B w (w.setCell ⟨b, i, none⟩ u) := by
  refine ⟨by simp [World.setCell], fun k hlt ho => Below.heap_setCell w ⟨b, i, none⟩ u k ?_⟩
  intro e
  have e : k = b := e
  rw [e] at ho
  rcases ho with ho | ⟨cs', t', ho, _, _, n3⟩
  · omega
  · unfold Blk at hb; rw [hb] at ho; injection ho with ho; injection ho with _ ho; exact n3 ho.symm
theorem Fix.keep3 {B : Nat} {w w' : World} {size : Nat} {A : Option Addr} {n : Nat} {xs : List Value} (h : Fix B w size A n xs) (k : Kept3 B w w') : Fix B w' size A n xs := by
  obtain ⟨h1, h2⟩ := h
  refine ⟨⟨h1.1, fun hn => ?_⟩, fun ad hA hn => ?_⟩
  · obtain ⟨ad, hA, hb, hc⟩ := h1.2 hn
    refine ⟨ad, hA, Nat.lt_of_lt_of_le hb k.size, fun j u hj => ?_⟩
    exact (World.cell?_of_block (by rw [block_of_add]; exact k.keep _ hb (h2 ad hA hn))).trans (hc j u hj)
  · obtain ⟨ad', hA', hb, _⟩ := h1.2 hn
    rw [hA] at hA'
    cases hA'
    exact (h2 ad hA hn).imp id fun ⟨cs, t, hc⟩ => ⟨cs, t, (k.keep _ hb (h2 ad hA hn)).trans hc.1, hc.2⟩
theorem Fix.keep {B : Nat} {w w' : World} {size : Nat} {A : Option Addr} {n : Nat} {xs : List Value} (h : Fix B w size A n xs) (k : Kept B w w') : Fix B w' size A n xs := h.keep3 k.three
theorem Fix.of_own {B base : Nat} {w : World} {A : Option Addr} {e : TypeId} {s n c : Nat} {xs : List Value} (he : e ≠ 51 ∧ e ≠ 63 ∧ e ≠ 32) (h : w.ownsRow base e s (.slice A n c) n xs) : Fix B w s A n xs := by
  refine ⟨Reads.of_own h, fun ad hA hn => .inr ?_⟩
  rcases h.2 with ⟨h1, h2⟩ | ⟨g, cap, cur, h1, h2, h3, _⟩
  · injection h1 with e1; rw [e1] at hA; cases hA
  · injection h1 with e1
    rw [e1] at hA
    cases hA
    exact ⟨cur, e, h3, he⟩
theorem Fix.none_ (B : Nat) (w : World) (size : Nat) : Fix B w size none 0 [] := ⟨Reads.none_, fun ad h => by cases h⟩
/-- a value that is a row of the call's own. -/
theorem own_is_slice {w : World} {base n s : Nat} {e : TypeId} {v : Value} {xs : List Value} (h : w.ownsRow base e s v n xs) : ∃ A c, v = .slice A n c := by
  rcases h.2 with ⟨rfl, h2⟩ | ⟨g, cap, cur, rfl, _⟩
  · have : n = 0 ∨ s = 0 := by have := h.1; rw [h2] at this; simp at this; omega
    rcases Nat.eq_zero_or_pos n with h0 | h0
    · subst h0; exact ⟨none, 0, rfl⟩
    · obtain ⟨g, c, e1, _⟩ := h.form h0
      cases e1
  · exact ⟨_, _, rfl⟩

/-! maps -/
def MapIs (w : World) (k : TypeId) (b : Nat) (es : List (Value × Value)) : Prop :=
  ∃ arr clock, w.heap[b]? = some (.map arr clock) ∧ arr.toList.map (fun e => (e.key, e.val)) = es ∧ ∀ e ∈ arr.toList, ∃ l, keyOf Try.prog k e.key = some l
section
variable {w w' : World} {k : TypeId} {b : Nat} {es : List (Value × Value)}
theorem MapIs.lt (h : MapIs w k b es) : b < w.heap.size := by
  obtain ⟨arr, clock, hb, _⟩ := h
  exact (Array.getElem?_eq_some_iff.1 hb).1
theorem MapIs.same (h : MapIs w k b es) (hb : w'.heap[b]? = w.heap[b]?) : MapIs w' k b es := by
  obtain ⟨arr, clock, h1, h2⟩ := h
  exact ⟨arr, clock, hb.trans h1, h2⟩
theorem MapIs.no_cells (h : MapIs w k b es) {cs : Array Value} {t : TypeId} {f : Nat × Nat} (hc : w.heap[b]? = some (.cells cs t f)) : False := by
  obtain ⟨arr, clock, h1, _⟩ := h
  rw [h1] at hc; injection hc with hc; cases hc
theorem MapIs.made (w : World) (k : TypeId) : MapIs (w.alloc (.map #[] 0)) k w.heap.size [] := ⟨#[], 0, (MapKept.heap_alloc w _).1, rfl, by simp⟩
variable {t e : TypeId}
theorem MapIs.look (h : MapIs w k b es) (K : Maps.Keyed Try.prog k) (ht : Try.prog.underlying t = some (.map k e)) {z : Value} (hz : (zeroValue e).run Try.prog w = .ok z w) {key : Value} {kl : Lit} (hkey : keyOf Try.prog k key = some kl) :
    ((Instr.lookup t (.map (some b)) key true).run Try.prog w = .ok (.tuple #[z, .bool false]) w ∧ ∀ x ∈ es, x.1 ≠ key) ∨ ∃ v, (key, v) ∈ es ∧ (Instr.lookup t (.map (some b)) key true).run Try.prog w = .ok (.tuple #[v, .bool true]) w := by
  obtain ⟨arr, clock, hb, rfl, hk⟩ := h
  rcases K.find w hkey arr.toList hk with ⟨h1, h2⟩ | ⟨j, e0, h1, h2, h3⟩
  · refine .inl ⟨by simp [Instr.lookup, run_underlying ht, MapKept.run_getObj_map hb, K.check w _ hkey, h1, hz, Result.andThen], fun x hx => ?_⟩
    obtain ⟨y, hy, rfl⟩ := List.mem_map.1 hx
    exact h2 y hy
  · refine .inr ⟨e0.val, List.mem_map.2 ⟨e0, List.mem_of_getElem? h2, by rw [h3]⟩, by simp [Instr.lookup, run_underlying ht, MapKept.run_getObj_map hb, K.check w _ hkey, h1, Result.andThen]⟩
theorem MapIs.push (h : MapIs w k b es) (K : Maps.Keyed Try.prog k) (ht : Try.prog.underlying t = some (.map k e)) {key val : Value} {kl : Lit} (hkey : keyOf Try.prog k key = some kl) (hn : ∀ x ∈ es, x.1 ≠ key) :
    ∃ w', (Instr.mapUpdate t (.map (some b)) key val).run Try.prog w = .ok () w' ∧ MapIs w' k b (es ++ [(key, val)]) ∧ w.grownBy w' (some b) := by
  obtain ⟨arr, clock, hb, rfl, hk⟩ := h
  rcases K.find w hkey arr.toList hk with ⟨h1, h2⟩ | ⟨j, e0, h1, h2, h3⟩
  · refine ⟨ChangeMaps.setBlock w b (.map (arr.push ⟨key, val, clock⟩) (clock + 1)), ?_, ⟨_, _, ChangeMaps.heap_setBlock_same hb _, by simp, ?_⟩, ⟨rfl, rfl, rfl, by simp [ChangeMaps.setBlock], fun i _ hi => ChangeMaps.heap_setBlock_other hb _ (fun e => hi (by rw [e]))⟩⟩
    · simp [Instr.mapUpdate, run_underlying ht, MapKept.run_getObj_map hb, K.check w false hkey, h1, MapKept.run_setObj_map _ hb, Result.andThen, ChangeMaps.setBlock]
    · intro x hx
      simp only [Array.toList_push, List.mem_append, List.mem_singleton] at hx
      rcases hx with hx | rfl
      · exact hk x hx
      · exact ⟨_, hkey⟩
  · exact absurd h3 (hn (e0.key, e0.val) (List.mem_map.2 ⟨e0, List.mem_of_getElem? h2, rfl⟩))
end

/-! the tree in memory -/
def pv (q : Pr) : List Value := [.string q.k, .int .i64 q.f]
theorem pv_len (q : Pr) : (pv q).length = 2 := rfl
theorem pv_one (q : Pr) : ∀ u ∈ pv q, u.oneCell' = true := by
  intro u hu
  simp only [pv, List.mem_cons, List.not_mem_nil, or_false] at hu
  rcases hu with rfl | rfl <;> rfl
/-- a shape as it lies in the row: its prototype, its properties' slice, its map. -/
structure Nd where
  p : Int
  A : Option Addr
  n : Nat
  c : Nat
  m : Nat
  l : List Pr
  e : List (Value × Value)
def Nd.cs (d : Nd) : List Value := [.int .u64 d.p, .slice d.A d.n d.c, .map (some d.m)]
theorem Nd.cs_len (d : Nd) : d.cs.length = 3 := rfl
theorem Nd.cs_one (d : Nd) : ∀ u ∈ d.cs, u.oneCell' = true := by
  intro u hu
  simp only [Nd.cs, List.mem_cons, List.not_mem_nil, or_false] at hu
  rcases hu with rfl | rfl | rfl <;> rfl
structure NdIs (B : Nat) (w : World) (d : Nd) : Prop where
  l : Fix B w 2 d.A d.n (d.l.flatMap pv)
  e : MapIs w 69 d.m d.e
  b : B ≤ d.m
structure Raw (w : World) (B g : Nat) (most : Int) (v : Value) (D : List Nd) (rb : Nat) (R : List (Value × Value)) : Prop where
  bb : B ≤ g
  blk : Blk w g 51 #[.int .i64 most, v, .map (some rb)]
  own : w.ownsRow B 63 3 v D.length (D.flatMap Nd.cs)
  node : ∀ d ∈ D, NdIs B w d
  roots : MapIs w 23 rb R
  rB : B ≤ rb
  apart : (rb :: D.map (·.m)).Nodup
section
variable {w w' : World} {B g : Nat} {most : Int} {v : Value} {D : List Nd} {rb : Nat} {R : List (Value × Value)}
theorem Raw.base (h : Raw w B g most v D rb R) : B ≤ w.heap.size := Nat.le_trans h.bb (Nat.le_of_lt h.blk.lt)
theorem NdIs.below {d : Nd} (h : NdIs B w d) (hB : B ≤ w.heap.size) (b : Below w.heap.size w w') : NdIs B w' d :=
  ⟨h.l.keep (Kept.below b hB), h.e.same (b.block _ h.e.lt), h.b⟩
theorem Raw.below (h : Raw w B g most v D rb R) (b : Below w.heap.size w w') : Raw w' B g most v D rb R :=
  ⟨h.bb, h.blk.below b h.blk.lt, own_below b h.own, fun d hd => (h.node d hd).below h.base b, h.roots.same (b.block _ h.roots.lt), h.rB, h.apart⟩
theorem Raw.c0 (h : Raw w B g most v D rb R) : w.cell? ⟨g, 0, none⟩ = some (.int .i64 most) ∧ w.cell? ⟨g, 1, none⟩ = some v ∧ w.cell? ⟨g, 2, none⟩ = some (.map (some rb)) := by
  have h0 := h.blk.cell 0
  have h1 := h.blk.cell 1
  have h2 := h.blk.cell 2
  exact ⟨h0, h1, h2⟩
theorem Raw.sl (h : Raw w B g most v D rb R) : ∃ A c, v = .slice A D.length c := own_is_slice h.own
theorem Raw.at_ (h : Raw w B g most v D rb R) {i : Nat} {d : Nd} (hd : D[i]? = some d) : ∃ gs c, v = .slice (some ⟨gs, 0, none⟩) D.length c ∧ w.cell? ⟨gs, i * 3, none⟩ = some (.int .u64 d.p) ∧ w.cell? ⟨gs, i * 3 + 1, none⟩ = some (.slice d.A d.n d.c) ∧ w.cell? ⟨gs, i * 3 + 2, none⟩ = some (.map (some d.m)) := by
  obtain ⟨gs, c, rfl, hc⟩ := own_get Nd.cs_len (by decide) h.own hd
  exact ⟨gs, c, rfl, hc 0 _ rfl, hc 1 _ rfl, hc 2 _ rfl⟩
theorem Raw.v_ne (h : Raw w B g most v D rb R) {b : Nat} (hb : ∀ cs, w.heap[b]? = some (.cells cs 63 (0, 0)) → False) : v.ownBlock ≠ some b := by
  intro e
  rcases h.own.2 with ⟨rfl, _⟩ | ⟨g', cap, cur, rfl, _, h3, _⟩
  · simp [Value.ownBlock] at e
  · have : g' = b := by simpa [Value.ownBlock] using e
    subst this
    exact hb cur h3
/-- a shape more: the row grows, and is stored back. -/
theorem Raw.more {w2 : World} {v' : Value} {nd : Nd} (h : Raw w B g most v D rb R) (hn : NdIs B w nd) (hm : nd.m ∉ rb :: D.map (·.m))
    (ho : w2.ownsRow B 63 3 v' (D.length + 1) (D.flatMap Nd.cs ++ nd.cs)) (hg : w.grownBy w2 v.ownBlock) :
    Raw (w2.setCell ⟨g, 1, none⟩ v') B g most v' (D ++ [nd]) rb R ∧ Kept B w (w2.setCell ⟨g, 1, none⟩ v') := by
  have kb := h.blk.grown hg (fun e => own_blk_ne h.own h.blk (by decide) e.symm)
  have hK1 : Kept B w w2 := Kept.grown hg h.base (fun k e => by
    obtain ⟨h1, h2⟩ := h.own.lt k e
    refine ⟨h1, fun cs t hc => ?_⟩
    by_cases ht : t = 63
    · exact .inr ht
    · exact absurd e (own_blk_ne h.own (show Blk w k t cs from hc) (fun e => ht e.symm)))
  have hK2 : Kept B w2 (w2.setCell ⟨g, 1, none⟩ v') := Kept.set_ (p := ⟨g, 1, none⟩) kb (.inl rfl) h.bb v'
  have hK := hK1.trans hK2
  have mp : ∀ {k : TypeId} {b : Nat} {es : List (Value × Value)}, MapIs w k b es → MapIs (w2.setCell ⟨g, 1, none⟩ v') k b es := fun {k b es} hm => by
    refine hm.same ?_
    rw [Below.heap_setCell _ _ _ _ (fun e => by
      have e : b = g := e
      subst e; exact hm.no_cells h.blk)]
    exact hg.block _ hm.lt (fun e => h.v_ne (fun cs hc => hm.no_cells hc) e.symm)
  refine ⟨⟨h.bb, kb.set_ 1 _, ?_, fun d hd => ?_, mp h.roots, h.rB, ?_⟩, hK⟩
  · have := ownsRow_setCell_other ho (a := ⟨g, 1, none⟩) (own_blk_ne ho kb (by decide)) v'
    rw [List.length_append, List.flatMap_append, List.flatMap_singleton]; exact this
  · rcases List.mem_append.1 hd with hd | hd
    · have k := h.node d hd
      exact ⟨k.l.keep hK, mp k.e, k.b⟩
    · rw [List.mem_singleton.1 hd]
      exact ⟨hn.l.keep hK, mp hn.e, hn.b⟩
  · have : rb :: (D ++ [nd]).map (·.m) = (rb :: D.map (·.m)) ++ [nd.m] := by simp
    rw [this, List.nodup_append]
    refine ⟨h.apart, by simp, fun a ha b hb => ?_⟩
    rw [List.mem_singleton.1 hb]
    rintro rfl
    exact hm ha
theorem Raw.map_kept (h : Raw w B g most v D rb R) {b : Nat} (hg : w.grownBy w' (some b)) (hb : ∀ cs t f, w.heap[b]? = some (.cells cs t f) → False) (hB : B ≤ b) :
    Kept B w w' ∧ Blk w' g 51 #[.int .i64 most, v, .map (some rb)] ∧ w'.ownsRow B 63 3 v D.length (D.flatMap Nd.cs) := by
  refine ⟨Kept.grown hg h.base (fun k e => by cases e; exact ⟨hB, fun cs t hc => absurd hc (fun hc => hb _ _ _ hc)⟩), h.blk.grown hg (fun e => by cases e; exact hb _ _ _ h.blk), ?_⟩
  exact h.own.kept hg (.inr fun e => h.v_ne (fun cs hc => hb _ _ _ hc) e)
/-- an entry more among the roots. -/
theorem Raw.root (h : Raw w B g most v D rb R) {R' : List (Value × Value)} (hg : w.grownBy w' (some rb)) (hm : MapIs w' 23 rb R') : Raw w' B g most v D rb R' ∧ Kept B w w' := by
  obtain ⟨k1, k2, k3⟩ := h.map_kept hg (fun _ _ _ hc => h.roots.no_cells hc) h.rB
  refine ⟨⟨h.bb, k2, k3, fun d hd => ?_, hm, h.rB, h.apart⟩, k1⟩
  have k := h.node d hd
  refine ⟨k.l.keep k1, k.e.same (hg.block _ k.e.lt (fun e => ?_)), k.b⟩
  injection e with e
  exact (List.nodup_cons.1 h.apart).1 (List.mem_map.2 ⟨d, hd, e⟩)
/-- an entry more in a shape's map. -/
theorem Raw.way (h : Raw w B g most v D rb R) {i : Nat} {d : Nd} {e' : List (Value × Value)} (hd : D[i]? = some d) (hg : w.grownBy w' (some d.m)) (hm : MapIs w' 69 d.m e') :
    Raw w' B g most v (D.set i { d with e := e' }) rb R ∧ Kept B w w' := by
  have hmem := List.mem_of_getElem? hd
  have kd := h.node d hmem
  obtain ⟨k1, k2, k3⟩ := h.map_kept hg (fun _ _ _ hc => kd.e.no_cells hc) kd.b
  have hi := (List.getElem?_eq_some_iff.1 hd).1
  have hnd := (List.nodup_cons.1 h.apart)
  have e1 : (D.set i { d with e := e' }).flatMap Nd.cs = D.flatMap Nd.cs := by
    rw [List.flatMap_def, List.flatMap_def, List.map_set]
    congr 1
    apply List.ext_getElem?
    intro j
    rw [List.getElem?_set]
    split
    · rename_i e; subst e; rw [if_pos (by simpa using hi)]; simp [hd, Nd.cs]
    · rfl
  have e2 : (D.set i { d with e := e' }).map (·.m) = D.map (·.m) := by
    rw [List.map_set]
    apply List.ext_getElem?
    intro j
    rw [List.getElem?_set]
    split
    · rename_i e; subst e; rw [if_pos (by simpa using hi)]; simp [hd]
    · rfl
  refine ⟨⟨h.bb, k2, by rw [e1, List.length_set]; exact k3, fun x hx => ?_, h.roots.same (hg.block _ h.roots.lt (fun e => ?_)), h.rB, by rw [e2]; exact h.apart⟩, k1⟩
  · obtain ⟨j, hj⟩ := List.mem_iff_getElem?.1 hx
    rw [List.getElem?_set] at hj
    split at hj
    · rename_i e; subst e
      try rw [if_pos hi] at hj
      injection hj with hj
      subst hj
      exact ⟨kd.l.keep k1, hm, kd.b⟩
    · rename_i hne
      have k := h.node x (List.mem_of_getElem? hj)
      refine ⟨k.l.keep k1, k.e.same (hg.block _ k.e.lt (fun e => ?_)), k.b⟩
      injection e with e
      have n1 := List.pairwise_iff_getElem.1 hnd.2
      obtain ⟨l1, g1⟩ := List.getElem?_eq_some_iff.1 hd
      obtain ⟨l2, g2⟩ := List.getElem?_eq_some_iff.1 hj
      rcases Nat.lt_or_ge i j with hl | hl
      · exact n1 i j (by simpa using l1) (by simpa using l2) hl (by simp [g1, g2, e])
      · exact n1 j i (by simpa using l2) (by simpa using l1) (by omega) (by simp [g1, g2, e])
  · injection e with e
    exact hnd.1 (List.mem_map.2 ⟨d, hmem, e.symm⟩)
end
end Go.Proofs.Ytchbgececcclgaa
