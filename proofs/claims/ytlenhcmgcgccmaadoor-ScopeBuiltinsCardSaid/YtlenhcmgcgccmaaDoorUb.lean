/- Scope: the walk's record and rows in memory. -/
import Derived.Test.YtlenhcmgcgccmaaDoorUa
import Derived.Test.YtlenhcmgcgccmaaDoorRh
namespace Go.Proofs.YtlenhcmgcgccmaaDoor
open Go.RowKit Go
set_option linter.unusedVariables false
set_option linter.unusedSimpArgs false
/-! rows -/
section
variable {w w' : World} {base n s : Nat} {e : TypeId} {v : Value} {xs : List Value}
theorem own_same (h : w.ownsRow base e s v n xs) (hb : ∀ b, v.ownBlock = some b → w'.heap[b]? = w.heap[b]?) : w'.ownsRow base e s v n xs := by
  obtain ⟨h3, h4⟩ := h
  refine ⟨h3, ?_⟩
  rcases h4 with h4 | ⟨g, cap, cur, e1, e2, e3, e4⟩
  · exact .inl h4
  · exact .inr ⟨g, cap, cur, e1, e2, (hb g (by rw [e1]; rfl)).trans e3, e4⟩
theorem own_lt (h : w.ownsRow base e s v n xs) {b : Nat} (hb : v.ownBlock = some b) : base ≤ b ∧ b < w.heap.size := h.lt b hb
theorem own_ne_blk (h : w.ownsRow base e s v n xs) {g : Nat} {t : TypeId} {cs : Array Value} (hg : Blk w g t cs) (hne : e ≠ t) {b : Nat} (hb : v.ownBlock = some b) : b ≠ g := fun hh => own_blk_ne h hg hne (by rw [hb, hh])
theorem own_ne_own {base' n' s' : Nat} {e' : TypeId} {v' : Value} {xs' : List Value} (h : w.ownsRow base e s v n xs) (h' : w.ownsRow base' e' s' v' n' xs') (hne : e ≠ e') {b b' : Nat} (hb : v.ownBlock = some b) (hb' : v'.ownBlock = some b') : b ≠ b' := by
  rintro rfl
  rcases h.2 with ⟨rfl, _⟩ | ⟨g, cap, cur, rfl, _, hh, _⟩
  · simp [Value.ownBlock] at hb
  · have : g = b := by simpa [Value.ownBlock] using hb
    subst this
    exact hne (own_row_type h' hb' _ _ hh)
theorem own_ne_map (h : w.ownsRow base e s v n xs) {m : Nat} {k : TypeId} {es : List (Value × Value)} (hm : MapIs w k m es) {b : Nat} (hb : v.ownBlock = some b) : b ≠ m := by
  rintro rfl
  rcases h.2 with ⟨rfl, _⟩ | ⟨g, cap, cur, rfl, _, hh, _⟩
  · simp [Value.ownBlock] at hb
  · have : g = b := by simpa [Value.ownBlock] using hb
    subst this
    exact hm.no_cells hh
/-- a row cut at its end. -/
theorem own_cut {A : Option Addr} {c : Nat} (h : w.ownsRow base e s (.slice A n c) n xs) (k : Nat) (hk : k ≤ n) (hA : A ≠ none) : w.ownsRow base e s (.slice A k c) k (xs.take (k * s)) := by
  obtain ⟨h3, h4⟩ := h
  refine ⟨by rw [List.length_take, h3]; exact Nat.min_eq_left (Nat.mul_le_mul_right s hk), ?_⟩
  rcases h4 with ⟨e1, _⟩ | ⟨g, cap, cur, e1, e2, e3, e4, e5, e6, e7⟩
  · injection e1 with e1; exact absurd e1 hA
  · injection e1 with e1 _ e1'
    subst e1; subst e1'
    exact .inr ⟨g, c, cur, rfl, e2, e3, by omega, e5, e6, by rw [← e7, List.take_take, Nat.min_eq_left (Nat.mul_le_mul_right s hk)]⟩
/-- a cell of a row is written. -/
theorem own_write {g c : Nat} (h : w.ownsRow base e s (.slice (some ⟨g, 0, none⟩) n c) n xs) (k : Nat) (u : Value) : (w.setCell ⟨g, k, none⟩ u).ownsRow base e s (.slice (some ⟨g, 0, none⟩) n c) n (xs.set k u) := by
  obtain ⟨h3, h4⟩ := h
  refine ⟨by rw [List.length_set]; exact h3, ?_⟩
  rcases h4 with ⟨e1, _⟩ | ⟨g', cap, cur, e1, e2, e3, e4, e5, e6, e7⟩
  · cases e1
  · injection e1 with e1 _ e1'
    injection e1 with e1
    injection e1 with e1
    subst e1; subst e1'
    refine .inr ⟨g, c, cur.setIfInBounds k u, rfl, e2, (show Blk w g e cur from e3).set_ k u, e4, e5, by simpa using e6, ?_⟩
    rw [← e7, Array.toList_setIfInBounds, List.take_set]
theorem own_cell {g c : Nat} (h : w.ownsRow base e s (.slice (some ⟨g, 0, none⟩) n c) n xs) {k : Nat} {u : Value} (hk : xs[k]? = some u) : w.cell? ⟨g, k, none⟩ = some u ∧ w.frozen? ⟨g, k, none⟩ = false := by
  have h1 := h.cells (g := g) rfl k u hk
  have e1 : (⟨g, 0, none⟩ : Addr).add k = ⟨g, k, none⟩ := by unfold Addr.add; split <;> simp_all
  rw [e1] at h1
  refine ⟨h1, ?_⟩
  rcases h.2 with ⟨e1, _⟩ | ⟨g', cap, cur, e1, e2, e3, _⟩
  · cases e1
  · injection e1 with e1 _ e1'
    injection e1 with e1
    injection e1 with e1
    subst e1
    exact (show Blk w g e cur from e3).frozen k
theorem own_some (h : w.ownsRow base e s v n xs) (hn : 0 < n) : ∃ g c, v = .slice (some ⟨g, 0, none⟩) n c ∧ base ≤ g ∧ g < w.heap.size ∧ n ≤ c ∧ c ≤ maxLen := by
  rcases h.2 with ⟨rfl, h0⟩ | ⟨g, cap, cur, rfl, e2, e3, e4, e5, _⟩
  · omega
  · exact ⟨g, cap, rfl, e2, (show Blk w g e cur from e3).lt, e4, e5⟩
end
/-! lists of records as cells -/
theorem flat_get {α : Type} {f : α → List Value} {s : Nat} (hf : ∀ x, (f x).length = s) : ∀ (l : List α) (i j : Nat) (x : α), l[i]? = some x → j < s → (l.flatMap f)[i * s + j]? = (f x)[j]?
  | [], i, j, x, h, _ => by simp at h
  | y :: l, 0, j, x, h, hj => by
    simp at h; subst h
    rw [List.flatMap_cons, Nat.zero_mul, Nat.zero_add, List.getElem?_append_left (by rw [hf]; exact hj)]
  | y :: l, i + 1, j, x, h, hj => by
    rw [List.flatMap_cons, List.getElem?_append_right (by rw [hf, Nat.add_mul]; omega), hf, show (i + 1) * s + j - s = i * s + j by rw [Nat.add_mul]; omega]
    exact flat_get hf l i j x (by simpa using h) hj
theorem flat_set {α : Type} {f : α → List Value} {s : Nat} (hf : ∀ x, (f x).length = s) (g : α → α) (j : Nat) (u : Value) (hj : j < s) : ∀ (l : List α) (i : Nat) (x : α), l[i]? = some x → f (g x) = (f x).set j u → (l.flatMap f).set (i * s + j) u = (l.modify i g).flatMap f
  | [], i, x, h, _ => by simp at h
  | y :: l, 0, x, h, hg => by
    simp at h; subst h
    rw [List.flatMap_cons, Nat.zero_mul, Nat.zero_add, List.set_append_left _ _ (by rw [hf]; exact hj), ← hg]
    simp
  | y :: l, i + 1, x, h, hg => by
    rw [List.flatMap_cons, List.set_append_right _ _ (by rw [hf, Nat.add_mul]; omega), hf, show (i + 1) * s + j - s = i * s + j by rw [Nat.add_mul]; omega, flat_set hf g j u hj l i x (by simpa using h) hg]
    simp
theorem flat_take {α : Type} {f : α → List Value} {s : Nat} (hf : ∀ x, (f x).length = s) : ∀ (l : List α) (k : Nat), (l.flatMap f).take (k * s) = (l.take k).flatMap f
  | [], k => by simp
  | x :: l, 0 => by simp
  | x :: l, k + 1 => by
    rw [List.flatMap_cons, List.take_succ_cons, List.flatMap_cons, show (k + 1) * s = (f x).length + k * s by rw [hf, Nat.add_mul]; omega, List.take_length_add_append, flat_take hf l k]
def Sc.cells (x : Sc) : List Value := [.int .i64 x.at_, .int .i64 x.par, .int .i64 x.params, .int .i64 x.vars]
def Vr.cells (x : Vr) : List Value := [.string x.name, .int .i64 x.at_, .int .i64 x.kind, .int .i64 x.fn, .int .i64 x.slot, .bool x.cap]
def Us.cells (x : Us) : List Value := [.int .i64 x.at_, .int .i64 x.var]
def lcells (x : ByteArray × Bool) : List Value := [.string x.1, .bool x.2]
def mapV (m : Nat) : Value := .map (some m)
def bents (b : Bk) : List (Value × Value) := b.map fun e => (.string e.1, .int .i64 e.2)
/-! the record -/
structure Rw where
  sv : Value
  vv : Value
  uv : Value
  bv : Value
  lv : Value
def Ft (p : Nat) (R : Rw) (b : Nat) : Prop := b = p ∨ R.sv.ownBlock = some b ∨ R.vv.ownBlock = some b ∨ R.uv.ownBlock = some b ∨ R.bv.ownBlock = some b ∨ R.lv.ownBlock = some b
def Gr (n p : Nat) (R R' : Rw) : Prop := ∀ b, Ft p R' b → Ft p R b ∨ n ≤ b
theorem Gr.refl (n p : Nat) (R : Rw) : Gr n p R R := fun _ h => .inl h
theorem Gr.trans {n n' p : Nat} {R R1 R2 : Rw} (h : Gr n p R R1) (k : Gr n' p R1 R2) (hn : n ≤ n') : Gr n p R R2 := fun b hb => by
  rcases k b hb with hb | hb
  · exact h b hb
  · exact .inr (by omega)
/-- a block's names: each once; their variables are there. -/
def BkOk (n : Nat) (b : Bk) : Prop := (b.map (·.1)).Nodup ∧ ∀ e ∈ b, 0 ≤ e.2 ∧ e.2 < (n : Int)
theorem BkOk.nil (n : Nat) : BkOk n [] := ⟨by simp, fun _ h => by cases h⟩
theorem BkOk.mono {n n' : Nat} {b : Bk} (h : BkOk n b) (hn : n ≤ n') : BkOk n' b := ⟨h.1, fun e he => ⟨(h.2 e he).1, by have := (h.2 e he).2; omega⟩⟩
structure WIn (w : World) (B : Nat) (ms : List Nat) (E : Env) (o : Out) (R : Rw) : Prop where
  sz : B ≤ w.heap.size
  sc : w.ownsRow B 41 4 R.sv o.scopes.length (o.scopes.flatMap Sc.cells)
  vr : w.ownsRow B 44 6 R.vv o.vars.length (o.vars.flatMap Vr.cells)
  us : w.ownsRow B 46 2 R.uv o.uses.length (o.uses.flatMap Us.cells)
  bl : w.ownsRow B 78 1 R.bv E.blocks.length (ms.map mapV)
  lb : w.ownsRow B 99 2 R.lv E.labels.length (E.labels.flatMap lcells)
  mlen : ms.length = E.blocks.length
  maps : ∀ (i m : Nat) (b : Bk), ms[i]? = some m → E.blocks[i]? = some b → MapIs w 9 m (bents b) ∧ B ≤ m
  nod : ms.Nodup
  fnlt : E.fn < o.scopes.length
  scv : ∀ x ∈ o.scopes, 0 ≤ x.vars ∧ x.vars ≤ 201
structure WAt (w : World) (p B : Nat) (ms : List Nat) (E : Env) (o : Out) (R : Rw) : Prop where
  hp : B ≤ p
  blk : Blk w p 64 #[R.sv, R.vv, R.uv, R.bv, .int .i64 E.fn, R.lv, .int .i64 E.loops]
  inn : WIn w B ms E o R
  ent : ∀ b ∈ E.blocks, BkOk o.vars.length b
section
variable {w w' : World} {p B : Nat} {ms : List Nat} {E : Env} {o : Out} {R : Rw}
theorem WIn.map_at (h : WIn w B ms E o R) {m : Nat} (hm : m ∈ ms) : ∃ b, b ∈ E.blocks ∧ MapIs w 9 m (bents b) ∧ B ≤ m := by
  obtain ⟨i, hi, rfl⟩ := List.getElem_of_mem hm
  have hb : i < E.blocks.length := by rw [← h.mlen]; exact hi
  exact ⟨_, List.getElem_mem hb, h.maps i _ _ (List.getElem?_eq_getElem hi) (List.getElem?_eq_getElem hb)⟩
/-- whatever leaves the rows and the maps alone. -/
theorem WIn.same (h : WIn w B ms E o R) (hs : w.heap.size ≤ w'.heap.size) (hsv : ∀ b, R.sv.ownBlock = some b → w'.heap[b]? = w.heap[b]?) (hvv : ∀ b, R.vv.ownBlock = some b → w'.heap[b]? = w.heap[b]?) (huv : ∀ b, R.uv.ownBlock = some b → w'.heap[b]? = w.heap[b]?) (hbv : ∀ b, R.bv.ownBlock = some b → w'.heap[b]? = w.heap[b]?) (hlv : ∀ b, R.lv.ownBlock = some b → w'.heap[b]? = w.heap[b]?) (hm : ∀ m ∈ ms, w'.heap[m]? = w.heap[m]?) : WIn w' B ms E o R :=
  ⟨Nat.le_trans h.sz hs, own_same h.sc hsv, own_same h.vr hvv, own_same h.us huv, own_same h.bl hbv, own_same h.lb hlv, h.mlen,
    fun i m b h1 h2 => ⟨(h.maps i m b h1 h2).1.same (hm m (List.mem_of_getElem? h1)), (h.maps i m b h1 h2).2⟩, h.nod, h.fnlt, h.scv⟩
theorem WIn.fr (h : WIn w B ms E o R) (hb : Below w.heap.size w w') : WIn w' B ms E o R :=
  h.same hb.size (fun b e => hb.block b (own_lt h.sc e).2) (fun b e => hb.block b (own_lt h.vr e).2) (fun b e => hb.block b (own_lt h.us e).2) (fun b e => hb.block b (own_lt h.bl e).2) (fun b e => hb.block b (own_lt h.lb e).2) (fun m hm => by obtain ⟨b, _, k, _⟩ := h.map_at hm; exact hb.block m k.lt)
theorem WAt.fr (h : WAt w p B ms E o R) (hb : Below w.heap.size w w') : WAt w' p B ms E o R := ⟨h.hp, h.blk.below hb h.blk.lt, h.inn.fr hb, h.ent⟩
theorem WAt.drew (h : WAt w p B ms E o R) : WAt w.drew p B ms E o R := h.fr (Below.refl _ _).drew
/-- the record is written. -/
theorem WIn.recd (h : WIn w B ms E o R) {cs : Array Value} (hb : Blk w p 64 cs) (i : Nat) (u : Value) : WIn (w.setCell ⟨p, i, none⟩ u) B ms E o R :=
  have k : ∀ b, b ≠ p → (w.setCell ⟨p, i, none⟩ u).heap[b]? = w.heap[b]? := fun b hn => Below.heap_setCell w ⟨p, i, none⟩ u b hn
  h.same (by simp [World.setCell]) (fun b e => k b (own_ne_blk h.sc hb (by decide) e)) (fun b e => k b (own_ne_blk h.vr hb (by decide) e)) (fun b e => k b (own_ne_blk h.us hb (by decide) e)) (fun b e => k b (own_ne_blk h.bl hb (by decide) e)) (fun b e => k b (own_ne_blk h.lb hb (by decide) e)) (fun m hm => by obtain ⟨b, _, kk, _⟩ := h.map_at hm; exact k m (fun e => by subst e; exact kk.no_cells hb))
/-- all that is the walk's lies from B on. -/
theorem WAt.ft (h : WAt w p B ms E o R) {b : Nat} (hb : Ft p R b) : B ≤ b ∧ b < w.heap.size := by
  rcases hb with rfl | hb | hb | hb | hb | hb
  · exact ⟨h.hp, h.blk.lt⟩
  · exact own_lt h.inn.sc hb
  · exact own_lt h.inn.vr hb
  · exact own_lt h.inn.us hb
  · exact own_lt h.inn.bl hb
  · exact own_lt h.inn.lb hb
theorem WAt.under (h : WAt w p B ms E o R) (f : Fr (Ft p R) w w') : Below B w w' := f.below h.inn.sz fun b hb e => by have := (h.ft e).1; omega
theorem WAt.not_ft (h : WAt w p B ms E o R) {b : Nat} {t : TypeId} {cs : Array Value} (hb : Blk w b t cs) (ht : t ≠ 64 ∧ t ≠ 41 ∧ t ≠ 44 ∧ t ≠ 46 ∧ t ≠ 78 ∧ t ≠ 99) : ¬ Ft p R b := by
  rintro (rfl | e | e | e | e | e)
  · exact (Blk.ne_ hb h.blk ht.1) rfl
  · exact own_ne_blk h.inn.sc hb (Ne.symm ht.2.1) e rfl
  · exact own_ne_blk h.inn.vr hb (Ne.symm ht.2.2.1) e rfl
  · exact own_ne_blk h.inn.us hb (Ne.symm ht.2.2.2.1) e rfl
  · exact own_ne_blk h.inn.bl hb (Ne.symm ht.2.2.2.2.1) e rfl
  · exact own_ne_blk h.inn.lb hb (Ne.symm ht.2.2.2.2.2) e rfl
theorem WIn.keep_sc (h : WIn w B ms E o R) (g : w.grownBy w' R.sv.ownBlock) : Below B w w' ∧ (∀ m ∈ ms, w'.heap[m]? = w.heap[m]?) ∧ (∀ b, R.vv.ownBlock = some b → w'.heap[b]? = w.heap[b]?) ∧ (∀ b, R.uv.ownBlock = some b → w'.heap[b]? = w.heap[b]?) ∧ (∀ b, R.bv.ownBlock = some b → w'.heap[b]? = w.heap[b]?) ∧ (∀ b, R.lv.ownBlock = some b → w'.heap[b]? = w.heap[b]?) := by
  refine ⟨(Below.refl _ _).grown g h.sz (fun b e => (own_lt h.sc e).1), fun m hm => ?_, fun b e => g.block b (own_lt h.vr e).2 (fun e' => own_ne_own h.vr h.sc (by decide) e e'.symm rfl), fun b e => g.block b (own_lt h.us e).2 (fun e' => own_ne_own h.us h.sc (by decide) e e'.symm rfl), fun b e => g.block b (own_lt h.bl e).2 (fun e' => own_ne_own h.bl h.sc (by decide) e e'.symm rfl), fun b e => g.block b (own_lt h.lb e).2 (fun e' => own_ne_own h.lb h.sc (by decide) e e'.symm rfl)⟩
  obtain ⟨b, _, k, _⟩ := h.map_at hm
  exact g.block m k.lt (fun e => own_ne_map h.sc k e.symm rfl)
theorem WIn.keep_vr (h : WIn w B ms E o R) (g : w.grownBy w' R.vv.ownBlock) : Below B w w' ∧ (∀ m ∈ ms, w'.heap[m]? = w.heap[m]?) ∧ (∀ b, R.sv.ownBlock = some b → w'.heap[b]? = w.heap[b]?) ∧ (∀ b, R.uv.ownBlock = some b → w'.heap[b]? = w.heap[b]?) ∧ (∀ b, R.bv.ownBlock = some b → w'.heap[b]? = w.heap[b]?) ∧ (∀ b, R.lv.ownBlock = some b → w'.heap[b]? = w.heap[b]?) := by
  refine ⟨(Below.refl _ _).grown g h.sz (fun b e => (own_lt h.vr e).1), fun m hm => ?_, fun b e => g.block b (own_lt h.sc e).2 (fun e' => own_ne_own h.sc h.vr (by decide) e e'.symm rfl), fun b e => g.block b (own_lt h.us e).2 (fun e' => own_ne_own h.us h.vr (by decide) e e'.symm rfl), fun b e => g.block b (own_lt h.bl e).2 (fun e' => own_ne_own h.bl h.vr (by decide) e e'.symm rfl), fun b e => g.block b (own_lt h.lb e).2 (fun e' => own_ne_own h.lb h.vr (by decide) e e'.symm rfl)⟩
  obtain ⟨b, _, k, _⟩ := h.map_at hm
  exact g.block m k.lt (fun e => own_ne_map h.vr k e.symm rfl)
theorem WIn.keep_us (h : WIn w B ms E o R) (g : w.grownBy w' R.uv.ownBlock) : Below B w w' ∧ (∀ m ∈ ms, w'.heap[m]? = w.heap[m]?) ∧ (∀ b, R.sv.ownBlock = some b → w'.heap[b]? = w.heap[b]?) ∧ (∀ b, R.vv.ownBlock = some b → w'.heap[b]? = w.heap[b]?) ∧ (∀ b, R.bv.ownBlock = some b → w'.heap[b]? = w.heap[b]?) ∧ (∀ b, R.lv.ownBlock = some b → w'.heap[b]? = w.heap[b]?) := by
  refine ⟨(Below.refl _ _).grown g h.sz (fun b e => (own_lt h.us e).1), fun m hm => ?_, fun b e => g.block b (own_lt h.sc e).2 (fun e' => own_ne_own h.sc h.us (by decide) e e'.symm rfl), fun b e => g.block b (own_lt h.vr e).2 (fun e' => own_ne_own h.vr h.us (by decide) e e'.symm rfl), fun b e => g.block b (own_lt h.bl e).2 (fun e' => own_ne_own h.bl h.us (by decide) e e'.symm rfl), fun b e => g.block b (own_lt h.lb e).2 (fun e' => own_ne_own h.lb h.us (by decide) e e'.symm rfl)⟩
  obtain ⟨b, _, k, _⟩ := h.map_at hm
  exact g.block m k.lt (fun e => own_ne_map h.us k e.symm rfl)
theorem WIn.keep_bl (h : WIn w B ms E o R) (g : w.grownBy w' R.bv.ownBlock) : Below B w w' ∧ (∀ m ∈ ms, w'.heap[m]? = w.heap[m]?) ∧ (∀ b, R.sv.ownBlock = some b → w'.heap[b]? = w.heap[b]?) ∧ (∀ b, R.vv.ownBlock = some b → w'.heap[b]? = w.heap[b]?) ∧ (∀ b, R.uv.ownBlock = some b → w'.heap[b]? = w.heap[b]?) ∧ (∀ b, R.lv.ownBlock = some b → w'.heap[b]? = w.heap[b]?) := by
  refine ⟨(Below.refl _ _).grown g h.sz (fun b e => (own_lt h.bl e).1), fun m hm => ?_, fun b e => g.block b (own_lt h.sc e).2 (fun e' => own_ne_own h.sc h.bl (by decide) e e'.symm rfl), fun b e => g.block b (own_lt h.vr e).2 (fun e' => own_ne_own h.vr h.bl (by decide) e e'.symm rfl), fun b e => g.block b (own_lt h.us e).2 (fun e' => own_ne_own h.us h.bl (by decide) e e'.symm rfl), fun b e => g.block b (own_lt h.lb e).2 (fun e' => own_ne_own h.lb h.bl (by decide) e e'.symm rfl)⟩
  obtain ⟨b, _, k, _⟩ := h.map_at hm
  exact g.block m k.lt (fun e => own_ne_map h.bl k e.symm rfl)
theorem WIn.keep_lb (h : WIn w B ms E o R) (g : w.grownBy w' R.lv.ownBlock) : Below B w w' ∧ (∀ m ∈ ms, w'.heap[m]? = w.heap[m]?) ∧ (∀ b, R.sv.ownBlock = some b → w'.heap[b]? = w.heap[b]?) ∧ (∀ b, R.vv.ownBlock = some b → w'.heap[b]? = w.heap[b]?) ∧ (∀ b, R.uv.ownBlock = some b → w'.heap[b]? = w.heap[b]?) ∧ (∀ b, R.bv.ownBlock = some b → w'.heap[b]? = w.heap[b]?) := by
  refine ⟨(Below.refl _ _).grown g h.sz (fun b e => (own_lt h.lb e).1), fun m hm => ?_, fun b e => g.block b (own_lt h.sc e).2 (fun e' => own_ne_own h.sc h.lb (by decide) e e'.symm rfl), fun b e => g.block b (own_lt h.vr e).2 (fun e' => own_ne_own h.vr h.lb (by decide) e e'.symm rfl), fun b e => g.block b (own_lt h.us e).2 (fun e' => own_ne_own h.us h.lb (by decide) e e'.symm rfl), fun b e => g.block b (own_lt h.bl e).2 (fun e' => own_ne_own h.bl h.lb (by decide) e e'.symm rfl)⟩
  obtain ⟨b, _, k, _⟩ := h.map_at hm
  exact g.block m k.lt (fun e => own_ne_map h.lb k e.symm rfl)
theorem WIn.grow_us (h : WIn w B ms E o R) {v : Value} {x : Us} (hv : w'.ownsRow B 46 2 v (o.uses ++ [x]).length ((o.uses ++ [x]).flatMap Us.cells)) (g : w.grownBy w' R.uv.ownBlock) : WIn w' B ms E { o with uses := o.uses ++ [x] } { R with uv := v } := by
  obtain ⟨b0, km, k0, k1, k2, k3⟩ := h.keep_us g
  exact ⟨Nat.le_trans h.sz g.size, own_same h.sc k0, own_same h.vr k1, hv, own_same h.bl k2, own_same h.lb k3, h.mlen, fun i m b h1 h2 => ⟨(h.maps i m b h1 h2).1.same (km m (List.mem_of_getElem? h1)), (h.maps i m b h1 h2).2⟩, h.nod, h.fnlt, h.scv⟩
theorem WIn.grow_vr (h : WIn w B ms E o R) {v : Value} {x : Vr} (hv : w'.ownsRow B 44 6 v (o.vars ++ [x]).length ((o.vars ++ [x]).flatMap Vr.cells)) (g : w.grownBy w' R.vv.ownBlock) : WIn w' B ms E { o with vars := o.vars ++ [x] } { R with vv := v } := by
  obtain ⟨b0, km, k0, k1, k2, k3⟩ := h.keep_vr g
  exact ⟨Nat.le_trans h.sz g.size, own_same h.sc k0, hv, own_same h.us k1, own_same h.bl k2, own_same h.lb k3, h.mlen, fun i m b h1 h2 => ⟨(h.maps i m b h1 h2).1.same (km m (List.mem_of_getElem? h1)), (h.maps i m b h1 h2).2⟩, h.nod, h.fnlt, h.scv⟩
theorem WIn.grow_sc (h : WIn w B ms E o R) {v : Value} {x : Sc} (hv : w'.ownsRow B 41 4 v (o.scopes ++ [x]).length ((o.scopes ++ [x]).flatMap Sc.cells)) (g : w.grownBy w' R.sv.ownBlock) (hx : 0 ≤ x.vars ∧ x.vars ≤ 201) : WIn w' B ms E { o with scopes := o.scopes ++ [x] } { R with sv := v } := by
  obtain ⟨b0, km, k0, k1, k2, k3⟩ := h.keep_sc g
  exact ⟨Nat.le_trans h.sz g.size, hv, own_same h.vr k0, own_same h.us k1, own_same h.bl k2, own_same h.lb k3, h.mlen, fun i m b h1 h2 => ⟨(h.maps i m b h1 h2).1.same (km m (List.mem_of_getElem? h1)), (h.maps i m b h1 h2).2⟩, h.nod, by have := h.fnlt; simp only [List.length_append, List.length_singleton]; omega, fun y hy => by
      rcases List.mem_append.1 hy with hy | hy
      · exact h.scv y hy
      · rw [List.mem_singleton.1 hy]; exact hx⟩
theorem WIn.grow_lb (h : WIn w B ms E o R) {v : Value} {x : ByteArray × Bool} (hv : w'.ownsRow B 99 2 v (E.labels ++ [x]).length ((E.labels ++ [x]).flatMap lcells)) (g : w.grownBy w' R.lv.ownBlock) : WIn w' B ms { E with labels := E.labels ++ [x] } o { R with lv := v } := by
  obtain ⟨b0, km, k0, k1, k2, k3⟩ := h.keep_lb g
  exact ⟨Nat.le_trans h.sz g.size, own_same h.sc k0, own_same h.vr k1, own_same h.us k2, own_same h.bl k3, hv, h.mlen, fun i m b h1 h2 => ⟨(h.maps i m b h1 h2).1.same (km m (List.mem_of_getElem? h1)), (h.maps i m b h1 h2).2⟩, h.nod, h.fnlt, h.scv⟩
theorem nodup_snoc {l : List Nat} {m : Nat} (h : l.Nodup) (hm : m ∉ l) : (l ++ [m]).Nodup := by
  rw [List.nodup_append]
  exact ⟨h, by simp, fun a ha b hb e => by simp at hb; subst hb; subst e; exact hm ha⟩
theorem snoc_at {α : Type} {l : List α} {x y : α} {i : Nat} (h : (l ++ [x])[i]? = some y) : (i < l.length ∧ l[i]? = some y) ∨ (i = l.length ∧ y = x) := by
  rcases Nat.lt_trichotomy i l.length with hi | hi | hi
  · rw [List.getElem?_append_left hi] at h; exact .inl ⟨hi, h⟩
  · subst hi; simp at h; exact .inr ⟨rfl, h.symm⟩
  · rw [List.getElem?_eq_none (by simp; omega)] at h; cases h
theorem WIn.grow_bl (h : WIn w B ms E o R) {v : Value} {x : Bk} {m : Nat} (hv : w'.ownsRow B 78 1 v (E.blocks ++ [x]).length ((ms ++ [m]).map mapV)) (g : w.grownBy w' R.bv.ownBlock) (hm : MapIs w' 9 m (bents x)) (hB : B ≤ m) (hn : m ∉ ms) : WIn w' B (ms ++ [m]) { E with blocks := E.blocks ++ [x] } o { R with bv := v } := by
  obtain ⟨b0, km, k0, k1, k2, k3⟩ := h.keep_bl g
  exact ⟨Nat.le_trans h.sz g.size, own_same h.sc k0, own_same h.vr k1, own_same h.us k2, hv, own_same h.lb k3, by simp [h.mlen], fun i m' b h1 h2 => by
      rcases snoc_at h1 with ⟨hi, h1⟩ | ⟨hi, rfl⟩
      · rcases snoc_at h2 with ⟨_, h2⟩ | ⟨hj, _⟩
        · exact ⟨(h.maps i m' b h1 h2).1.same (km m' (List.mem_of_getElem? h1)), (h.maps i m' b h1 h2).2⟩
        · have := h.mlen; omega
      · rcases snoc_at h2 with ⟨hj, _⟩ | ⟨_, rfl⟩
        · have := h.mlen; omega
        · exact ⟨hm, hB⟩, nodup_snoc h.nod hn, h.fnlt, h.scv⟩
/-- the innermost block goes. -/
theorem WIn.cut_bl {m : Nat} {b : Bk} {bs : List Bk} {A : Option Addr} {n c : Nat} (h : WIn w B (ms ++ [m]) E o R) (hE : E.blocks = bs ++ [b]) (hR : R.bv = .slice A n c) :
    WIn w B ms { E with blocks := bs } o { R with bv := .slice A bs.length c } := by
  have hl : ms.length = bs.length := by have := h.mlen; rw [hE] at this; simpa using this
  have hn : n = bs.length + 1 := by
    have hbl := h.bl
    rw [hR, hE] at hbl
    rcases hbl.2 with ⟨e, he⟩ | ⟨g, cap, cur, e, _⟩
    · simp at he
    · injection e with _ e _; simpa using e
  have hbl := h.bl
  rw [hE, hR, hn, show (bs ++ [b]).length = bs.length + 1 by simp] at hbl
  have hA : A ≠ none := by
    rintro rfl
    rcases hbl.2 with ⟨e, he⟩ | ⟨g, cap, cur, e, _⟩
    · simp at he
    · injection e with e; cases e
  refine ⟨h.sz, h.sc, h.vr, h.us, ?_, h.lb, hl, fun i m' b' h1 h2 => h.maps i m' b' ?_ ?_, ?_, h.fnlt, h.scv⟩
  · have := own_cut hbl bs.length (by omega) hA
    rw [show ((ms ++ [m]).map mapV).take (bs.length * 1) = ms.map mapV by rw [Nat.mul_one, ← hl, List.map_append, ← List.length_map (f := mapV), List.take_left]] at this
    exact this
  · rw [List.getElem?_append_left (List.getElem?_eq_some_iff.1 h1).1]; exact h1
  · rw [hE, List.getElem?_append_left (List.getElem?_eq_some_iff.1 h2).1]; exact h2
  · exact (List.nodup_append.1 h.nod).1
/-- the last label goes. -/
theorem WIn.cut_lb {x : ByteArray × Bool} {ls : List (ByteArray × Bool)} {A : Option Addr} {n c : Nat} (h : WIn w B ms E o R) (hE : E.labels = ls ++ [x]) (hR : R.lv = .slice A n c) :
    WIn w B ms { E with labels := ls } o { R with lv := .slice A ls.length c } := by
  have hlb := h.lb
  rw [hE, hR] at hlb
  have hn : n = ls.length + 1 := by
    rcases hlb.2 with ⟨e, he⟩ | ⟨g, cap, cur, e, _⟩
    · simp at he
    · injection e with _ e _; simpa using e
  rw [hn, show (ls ++ [x]).length = ls.length + 1 by simp] at hlb
  have hA : A ≠ none := by
    rintro rfl
    rcases hlb.2 with ⟨e, he⟩ | ⟨g, cap, cur, e, _⟩
    · simp at he
    · injection e with e; cases e
  refine ⟨h.sz, h.sc, h.vr, h.us, h.bl, ?_, h.mlen, h.maps, h.nod, h.fnlt, h.scv⟩
  have := own_cut hlb ls.length (by omega) hA
  rw [flat_take (s := 2) (fun _ => rfl), List.take_left] at this
  exact this
/-- the innermost block has one name more. -/
theorem WIn.put {m : Nat} {b b' : Bk} {bs : List Bk} (h : WIn w B (ms ++ [m]) { E with blocks := bs ++ [b] } o R) (g : w.grownBy w' (some m)) (hm : MapIs w' 9 m (bents b')) :
    WIn w' B (ms ++ [m]) { E with blocks := bs ++ [b'] } o R := by
  have hl : ms.length = bs.length := by have := h.mlen; simpa using this
  obtain ⟨hm0, hB⟩ := h.maps ms.length m b (by simp) (by simp [hl])
  have k : ∀ x, x < w.heap.size → x ≠ m → w'.heap[x]? = w.heap[x]? := fun x hx hn => g.block x hx (fun e => hn (Option.some.inj e))
  refine ⟨Nat.le_trans h.sz g.size, own_same h.sc fun x e => k x (own_lt h.sc e).2 (own_ne_map h.sc hm0 e), own_same h.vr fun x e => k x (own_lt h.vr e).2 (own_ne_map h.vr hm0 e), own_same h.us fun x e => k x (own_lt h.us e).2 (own_ne_map h.us hm0 e), ?_, own_same h.lb fun x e => k x (own_lt h.lb e).2 (own_ne_map h.lb hm0 e), by simp [hl], fun i m' b0 h1 h2 => ?_, h.nod, h.fnlt, h.scv⟩
  · have := own_same h.bl fun x e => k x (own_lt h.bl e).2 (own_ne_map h.bl hm0 e)
    simpa using this
  · rcases snoc_at h1 with ⟨hi, h1'⟩ | ⟨hi, rfl⟩
    · rcases snoc_at h2 with ⟨_, h2⟩ | ⟨hj, _⟩
      · have hh := h.maps i m' b0 h1 (by rw [List.getElem?_append_left (by omega)]; exact h2)
        refine ⟨hh.1.same (k m' hh.1.lt fun e => ?_), hh.2⟩
        subst e
        have hnd := (List.nodup_append.1 h.nod).2.2
        exact hnd m' (List.mem_of_getElem? h1') m' (by simp) rfl
      · omega
    · rcases snoc_at h2 with ⟨hj, _⟩ | ⟨_, rfl⟩
      · omega
      · exact ⟨hm, hB⟩
/-- a scope has one variable more. -/
theorem WIn.inc (h : WIn w B ms E o R) {g n c : Nat} (hR : R.sv = .slice (some ⟨g, 0, none⟩) n c) {fn : Nat} (hfn : fn < o.scopes.length) (hv : (o.scp fn).vars ≤ 200) :
    WIn (w.setCell ⟨g, fn * 4 + 3, none⟩ (.int .i64 ((o.scp fn).vars + 1))) B ms E (incV fn o) R := by
  have hsc := h.sc
  have hg : R.sv.ownBlock = some g := by rw [hR]; rfl
  have k : ∀ x, x ≠ g → (w.setCell ⟨g, fn * 4 + 3, none⟩ (.int .i64 ((o.scp fn).vars + 1))).heap[x]? = w.heap[x]? := fun x hn => Below.heap_setCell w ⟨g, fn * 4 + 3, none⟩ _ x hn
  have hat : o.scopes[fn]? = some (o.scp fn) := by unfold Out.scp; rw [List.getD_eq_getElem?_getD, List.getElem?_eq_getElem hfn]; rfl
  refine ⟨by simpa [World.setCell] using h.sz, ?_, own_same h.vr fun x e => k x (own_ne_own h.vr h.sc (by decide) e hg), own_same h.us fun x e => k x (own_ne_own h.us h.sc (by decide) e hg), own_same h.bl fun x e => k x (own_ne_own h.bl h.sc (by decide) e hg), own_same h.lb fun x e => k x (own_ne_own h.lb h.sc (by decide) e hg), h.mlen, fun i m b h1 h2 => ⟨(h.maps i m b h1 h2).1.same (k m (fun e => own_ne_map h.sc (h.maps i m b h1 h2).1 hg e.symm)), (h.maps i m b h1 h2).2⟩, h.nod, by simpa [incV] using h.fnlt, fun x hx => ?_⟩
  · have hn : n = o.scopes.length := by
      rw [hR] at hsc
      rcases hsc.2 with ⟨e, _⟩ | ⟨g', cap, cur, e, _⟩
      · cases e
      · injection e
    subst hn
    rw [hR] at hsc ⊢
    have := own_write hsc (fn * 4 + 3) (.int .i64 ((o.scp fn).vars + 1))
    rw [flat_set (f := Sc.cells) (s := 4) (fun _ => rfl) (fun s => { s with vars := s.vars + 1 }) 3 _ (by omega) o.scopes fn _ hat rfl] at this
    simpa [incV] using this
  · simp only [incV] at hx
    obtain ⟨i, hi, rfl⟩ := List.getElem_of_mem hx
    rw [List.getElem_modify]
    have hi' : i < o.scopes.length := by simpa using hi
    split
    · rename_i e
      subst e
      have e2 : o.scopes[fn] = o.scp fn := by rw [List.getElem?_eq_getElem hi'] at hat; exact Option.some.inj hat
      have := h.scv _ (List.getElem_mem hi')
      simp only [e2] at this ⊢
      omega
    · exact h.scv _ (List.getElem_mem hi')
/-- a variable is captured. -/
theorem WIn.capt (h : WIn w B ms E o R) {g n c : Nat} (hR : R.vv = .slice (some ⟨g, 0, none⟩) n c) {v : Nat} (hv : v < o.vars.length) :
    WIn (w.setCell ⟨g, v * 6 + 5, none⟩ (.bool true)) B ms E { o with vars := o.vars.modify v (fun x => { x with cap := true }) } R := by
  have hvr := h.vr
  have hg : R.vv.ownBlock = some g := by rw [hR]; rfl
  have k : ∀ x, x ≠ g → (w.setCell ⟨g, v * 6 + 5, none⟩ (.bool true)).heap[x]? = w.heap[x]? := fun x hn => Below.heap_setCell w ⟨g, v * 6 + 5, none⟩ _ x hn
  refine ⟨by simpa [World.setCell] using h.sz, own_same h.sc fun x e => k x (own_ne_own h.sc h.vr (by decide) e hg), ?_, own_same h.us fun x e => k x (own_ne_own h.us h.vr (by decide) e hg), own_same h.bl fun x e => k x (own_ne_own h.bl h.vr (by decide) e hg), own_same h.lb fun x e => k x (own_ne_own h.lb h.vr (by decide) e hg), h.mlen, fun i m b h1 h2 => ⟨(h.maps i m b h1 h2).1.same (k m (fun e => own_ne_map h.vr (h.maps i m b h1 h2).1 hg e.symm)), (h.maps i m b h1 h2).2⟩, h.nod, h.fnlt, h.scv⟩
  have hn : n = o.vars.length := by
    rw [hR] at hvr
    rcases hvr.2 with ⟨e, _⟩ | ⟨g', cap, cur, e, _⟩
    · cases e
    · injection e
  subst hn
  rw [hR] at hvr ⊢
  have := own_write hvr (v * 6 + 5) (.bool true)
  rw [flat_set (f := Vr.cells) (s := 6) (fun _ => rfl) (fun s => { s with cap := true }) 5 _ (by omega) o.vars v _ (List.getElem?_eq_getElem hv) rfl] at this
  simpa using this
end
end Go.Proofs.YtlenhcmgcgccmaaDoor
