/- Regions that draw their order, in few words: an operation taken, with what that asks. -/
import Derived.Test.YtlenhcmgcgccmaaDoorSa
import Derived.Test.YtlenhcmgcgccmaaDoorShelf
namespace Go.Proofs.YtlenhcmgcgccmaaDoor
open Go
set_option linter.unusedVariables false
set_option linter.unusedSimpArgs false
theorem z1 {α : Type} (l : List α) (i : Nat) (a : α) : l.toArray.setIfInBounds i a = (l.set i a).toArray := List.setIfInBounds_toArray ..
theorem z2 {α : Type} {xs : List α} {a b : α} : (a :: xs).set 0 b = b :: xs := List.set_cons_zero
theorem z3 {α : Type} {xs : List α} {n : Nat} {a b : α} : (a :: xs).set (n + 1) b = a :: xs.set n b := List.set_cons_succ
section
variable {P : Program} {ops : Array Oper} {Q : Exit → Act → World → Prop} {md : Region.Mode} {S : World → Prop} {n g : Nat}
theorem tk (i : Nat) {oi : Oper} {v : Value} {fuel : Nat} {listed : Array Bool} {a : Act} {w : World}
    (h : wpAnyH P md ops Q S fuel (listed.setIfInBounds i true) (a.put oi.dst v) w)
    (hi : ops[i]? = some oi := by (simp only [List.getElem?_toArray, List.getElem?_cons_succ, List.getElem?_cons_zero]; try rfl))
    (h1 : Region.noSelect ops = true := by kernel_rfl) (h2 : Region.free md ops listed i = true := by kernel_rfl) (h3 : (Region.ready md ops listed).contains i = true := by kernel_rfl)
    (hQ : ∀ c a w, Q (.panic c) (a.put oi.dst v) w → Q (.panic c) a w := by exact fun _ _ _ h => h)
    (hy : YieldsIf P ops S oi v a := by (refine Or.inl ⟨by rfl, ?_⟩; (intro w hSw; (try dsimp only at hSw); go_simp; try with_reducible rfl)))
    (hS : S w := by assumption) : wpAnyH P md ops Q S (fuel + 1) listed a w := wpAnyH_take hi h1 h2 h3 hQ hy hS h
theorem tn (i : Nat) {oi : Oper} {fuel : Nat} {listed : Array Bool} {a : Act} {w : World}
    (h : wpAnyH P md ops Q S fuel (listed.setIfInBounds i true) (a.put oi.dst undef) w)
    (hi : ops[i]? = some oi := by (simp only [List.getElem?_toArray, List.getElem?_cons_succ, List.getElem?_cons_zero]; try rfl))
    (h1 : Region.noSelect ops = true := by kernel_rfl) (h2 : Region.free md ops listed i = true := by kernel_rfl) (h3 : (Region.ready md ops listed).contains i = true := by kernel_rfl)
    (hQ : ∀ c a w, Q (.panic c) (a.put oi.dst undef) w → Q (.panic c) a w := by exact fun _ _ _ h => h)
    (hy : YieldsIf P ops S oi undef a := by exact Or.inr ⟨by rfl, rfl⟩)
    (hS : S w := by assumption) : wpAnyH P md ops Q S (fuel + 1) listed a w := wpAnyH_take hi h1 h2 h3 hQ hy hS h
theorem tt (i : Nat) {oi : Oper} {v : Value} {fuel : Nat} {listed : Array Bool} {a : Act} {w : World}
    (h : wpAnyT P md ops Q S n (TailIs P md ops Q n g) fuel (listed.setIfInBounds i true) (a.put oi.dst v) w)
    (hi : ops[i]? = some oi := by (simp only [List.getElem?_toArray, List.getElem?_cons_succ, List.getElem?_cons_zero]; try rfl))
    (h1 : (Region.noSelect ops && Region.sinkB md ops n && chainT md ops n && decide (n < ops.size) && decide (i < n) && headB md ops n listed) = true := by kernel_rfl) (h2 : Region.free md ops listed i = true := by kernel_rfl) (h3 : (Region.ready md ops listed).contains i = true := by kernel_rfl)
    (hQ : ∀ c a w, Q (.panic c) (a.put oi.dst v) w → Q (.panic c) a w := by exact fun _ _ _ h => h)
    (hy : YieldsIf P ops S oi v a := by (refine Or.inl ⟨by rfl, ?_⟩; (intro w hSw; (try dsimp only at hSw); go_simp; try with_reducible rfl)))
    (hS : S w := by assumption) : wpAnyT P md ops Q S n (TailIs P md ops Q n g) (fuel + 1) listed a w := wpAnyT_take hi h1 h2 h3 hQ hy hS h
end
end Go.Proofs.YtlenhcmgcgccmaaDoor
namespace Go.Proofs.YtlenhcmgcgccmaaDoor
open Go.RowKit Go
set_option linter.unusedVariables false
set_option linter.unusedSimpArgs false
/-! trees -/
inductive Tr where
  | node (kind at_ : Int) (name : ByteArray) (num : Int) (op : ByteArray) (kids : List Tr)
namespace Tr
def kind : Tr → Int | node k _ _ _ _ _ => k
def at_ : Tr → Int | node _ a _ _ _ _ => a
def name : Tr → ByteArray | node _ _ n _ _ _ => n
def num : Tr → Int | node _ _ _ m _ _ => m
def op : Tr → ByteArray | node _ _ _ _ o _ => o
def kids : Tr → List Tr | node _ _ _ _ _ l => l
section
variable (k a : Int) (n : ByteArray) (m : Int) (o : ByteArray) (l : List Tr)
theorem nk : (node k a n m o l).kind = k := rfl
theorem na : (node k a n m o l).at_ = a := rfl
theorem nn : (node k a n m o l).name = n := rfl
theorem nm : (node k a n m o l).num = m := rfl
theorem no : (node k a n m o l).op = o := rfl
theorem nl : (node k a n m o l).kids = l := rfl
end
def cells (t : Tr) (kv : Value) : Array Value := #[.int .i64 t.kind, .int .i64 t.at_, .string t.name, .int .u64 t.num, .string t.op, kv]
def wf1 (t : Tr) : Prop := (Lit.int .i64 t.at_).wf = true ∧ t.name.size ≤ maxLen
mutual
def size : Tr → Nat
  | node _ _ _ _ _ l => 1 + sizes l
def sizes : List Tr → Nat
  | [] => 0
  | t :: l => t.size + sizes l
end
theorem size_eq (t : Tr) : t.size = 1 + sizes t.kids := by cases t; rfl
theorem sizes_nil : sizes [] = 0 := rfl
theorem sizes_cons (t : Tr) (l : List Tr) : sizes (t :: l) = t.size + sizes l := rfl
theorem size_pos (t : Tr) : 1 ≤ t.size := by rw [size_eq]; omega
theorem sizes_append (a b : List Tr) : sizes (a ++ b) = sizes a + sizes b := by
  induction a with
  | nil => simp [sizes_nil]
  | cons x a ih => simp [sizes_cons, ih]; omega
theorem length_le_sizes (l : List Tr) : l.length ≤ sizes l := by
  induction l with
  | nil => simp
  | cons x l ih => have := size_pos x; simp [sizes_cons]; omega
/-- no more than so many nodes stand one below the other. -/
def fitsD : Nat → Tr → Bool
  | 0, _ => false
  | n + 1, t => t.kids.all (fitsD n)
theorem fitsD_succ (n : Nat) (t : Tr) : fitsD (n + 1) t = t.kids.all (fitsD n) := rfl
theorem fitsD_kid {n : Nat} {t k : Tr} (h : fitsD (n + 1) t = true) (hk : k ∈ t.kids) : fitsD n k = true := by
  rw [fitsD_succ] at h; exact List.all_eq_true.1 h k hk
theorem fitsD_mono : ∀ {n m : Nat} {t : Tr}, n ≤ m → fitsD n t = true → fitsD m t = true
  | 0, _, _, _, h => by cases h
  | n + 1, 0, _, h, _ => by omega
  | n + 1, m + 1, t, h, h1 => by
    rw [fitsD_succ, List.all_eq_true] at h1 ⊢
    exact fun k hk => fitsD_mono (by omega) (h1 k hk)
end Tr
/-- kids in memory. -/
inductive KidsAt (w : World) (B : Nat) : Value → List Tr → Prop
  | nil (a : Option Addr) (cap : Nat) (hcap : cap ≤ maxLen) : KidsAt w B (.slice a 0 cap) []
  | some_ (b off cap : Nat) (l : List Tr) (vs : Nat → Value) (hb : b < B) (hlen : l.length ≤ cap) (hcap : cap ≤ maxLen) (hne : l ≠ [])
      (hc : ∀ (i : Nat) (t : Tr), l[i]? = some t → NodeAt w b (off + i * 6) (t.cells (vs i)))
      (hw : ∀ (i : Nat) (t : Tr), l[i]? = some t → t.wf1)
      (hk : ∀ (i : Nat) (t : Tr), l[i]? = some t → KidsAt w B (vs i) t.kids) : KidsAt w B (.slice (some ⟨b, off, none⟩) l.length cap) l
theorem KidsAt.same {w w' : World} {B : Nat} (hb : ∀ p : Addr, p.block < B → w'.cell? p = w.cell? p) {v : Value} {l : List Tr} (h : KidsAt w B v l) : KidsAt w' B v l := by
  induction h with
  | nil a cap hcap => exact .nil a cap hcap
  | some_ b off cap l vs hb' hlen hcap hne hc hw hk ih => exact .some_ b off cap l vs hb' hlen hcap hne (fun i t hi j u hj => (hb ⟨b, off + i * 6 + j, none⟩ hb').trans (hc i t hi j u hj)) hw ih
theorem KidsAt.under {w w' : World} {B : Nat} {v : Value} {l : List Tr} (h : KidsAt w B v l) (hb : Below B w w') : KidsAt w' B v l := h.same fun _ hp => hb.cell hp
theorem KidsAt.more {w : World} {B B' : Nat} (hB : B ≤ B') {v : Value} {l : List Tr} (h : KidsAt w B v l) : KidsAt w B' v l := by
  induction h with
  | nil a cap hcap => exact .nil a cap hcap
  | some_ b off cap l vs hb' hlen hcap hne hc hw hk ih => exact .some_ b off cap l vs (by omega) hlen hcap hne hc hw ih
theorem KidsAt.slice {w : World} {B : Nat} {v : Value} {l : List Tr} (h : KidsAt w B v l) : ∃ a cap, v = .slice a l.length cap ∧ l.length ≤ cap ∧ cap ≤ maxLen ∧ (0 < l.length → ∃ b off, a = some ⟨b, off, none⟩ ∧ b < B) := by
  cases h with
  | nil a cap hcap => exact ⟨a, cap, rfl, by simp, hcap, fun h => by simp at h⟩
  | some_ b off cap l vs hb hlen hcap hne hc hw hk => exact ⟨_, cap, rfl, hlen, hcap, fun _ => ⟨b, off, rfl, hb⟩⟩
/-- one of the kids. -/
theorem KidsAt.kid {w : World} {B b off n cap : Nat} {l : List Tr} (h : KidsAt w B (.slice (some ⟨b, off, none⟩) n cap) l) {i : Nat} {t : Tr} (hi : l[i]? = some t) :
    b < B ∧ t.wf1 ∧ ∃ kv, NodeAt w b (off + i * 6) (t.cells kv) ∧ KidsAt w B kv t.kids := by
  cases h with
  | nil a cap hcap => simp at hi
  | some_ b off cap l vs hb hlen hcap hne hc hw hk => exact ⟨hb, hw i t hi, vs i, hc i t hi, hk i t hi⟩
theorem NodeAt.get {w : World} {b o : Nat} {t : Tr} {kv : Value} (h : NodeAt w b o (t.cells kv)) :
    w.cell? ⟨b, o, none⟩ = some (.int .i64 t.kind) ∧ w.cell? ⟨b, o + 1, none⟩ = some (.int .i64 t.at_) ∧ w.cell? ⟨b, o + 2, none⟩ = some (.string t.name) ∧
      w.cell? ⟨b, o + 3, none⟩ = some (.int .u64 t.num) ∧ w.cell? ⟨b, o + 4, none⟩ = some (.string t.op) ∧ w.cell? ⟨b, o + 5, none⟩ = some kv :=
  ⟨h 0 _ rfl, h 1 _ rfl, h 2 _ rfl, h 3 _ rfl, h 4 _ rfl, h 5 _ rfl⟩
/-- a part of a slice of kids from its beginning. -/
theorem KidsAt.front {w : World} {B n cap : Nat} {a : Option Addr} {l : List Tr} (h : KidsAt w B (.slice a n cap) l) (k : Nat) (hk : k ≤ l.length) : KidsAt w B (.slice a k cap) (l.take k) := by
  cases h with
  | nil a cap hcap => obtain rfl : k = 0 := by simpa using hk
                      simpa using KidsAt.nil a cap hcap
  | some_ b off cap l vs hb hlen hcap hne hc hw hk' =>
    rcases Nat.eq_zero_or_pos k with rfl | hp
    · simpa using KidsAt.nil (some ⟨b, off, none⟩) cap hcap
    · have hlt : (l.take k).length = k := by rw [List.length_take]; omega
      have hat : ∀ (i : Nat) (t : Tr), (l.take k)[i]? = some t → l[i]? = some t := fun i t hi => by
        rw [List.getElem?_take] at hi
        split at hi
        · exact hi
        · cases hi
      have := KidsAt.some_ (w := w) (B := B) b off cap (l.take k) vs hb (by omega) hcap (fun e => by rw [e] at hlt; simp at hlt; omega) (fun i t hi => hc i t (hat i t hi)) (fun i t hi => hw i t (hat i t hi)) (fun i t hi => hk' i t (hat i t hi))
      rwa [hlt] at this
/-- all but the first. -/
theorem KidsAt.rest {w : World} {B n cap b off : Nat} {t0 : Tr} {l : List Tr} (h : KidsAt w B (.slice (some ⟨b, off, none⟩) n cap) (t0 :: l)) (a' : Option Addr) (ha : l ≠ [] → a' = some ⟨b, off + 6, none⟩) : KidsAt w B (.slice a' l.length (cap - 1)) l := by
  cases h with
  | some_ b off cap l' vs hb hlen hcap hne hc hw hk' =>
    by_cases hl : l = []
    · subst hl; exact KidsAt.nil _ _ (by omega)
    · rw [ha hl]
      refine .some_ b (off + 6) (cap - 1) l (fun i => vs (i + 1)) hb (by simp at hlen; omega) (by omega) hl (fun i t hi => ?_) (fun i t hi => hw (i + 1) t (by simpa using hi)) (fun i t hi => hk' (i + 1) t (by simpa using hi))
      have := hc (i + 1) t (by simpa using hi)
      rwa [show off + (i + 1) * 6 = off + 6 + i * 6 by omega] at this
/-! frames -/
structure Fr (S : Nat → Prop) (w w' : World) : Prop where
  bel : Below 0 w w'
  keep : ∀ b, b < w.heap.size → ¬ S b → w'.heap[b]? = w.heap[b]?
section
variable {S S' : Nat → Prop} {w w1 w' : World}
theorem Fr.refl (S : Nat → Prop) (w : World) : Fr S w w := ⟨Below.refl 0 w, fun _ _ _ => rfl⟩
theorem Fr.size (h : Fr S w w') : w.heap.size ≤ w'.heap.size := h.bel.size
theorem Fr.trans (h : Fr S w w1) (k : Fr S' w1 w') (hs : ∀ b, S' b → S b ∨ w.heap.size ≤ b) : Fr S w w' :=
  ⟨h.bel.trans k.bel, fun b hb hn => by
    have h1 := h.keep b hb hn
    rw [k.keep b (Nat.lt_of_lt_of_le hb h.size) (fun e => by rcases hs b e with e | e; exact hn e; omega), h1]⟩
theorem Fr.tr (h : Fr S w w1) (k : Fr S w1 w') : Fr S w w' := h.trans k fun _ => .inl
theorem Fr.of_below (h : Below w.heap.size w w') : Fr S w w' := ⟨h.mono (Nat.zero_le _), fun b hb _ => h.block b hb⟩
theorem Fr.below {B : Nat} (h : Fr S w w') (hB : B ≤ w.heap.size) (hs : ∀ b, b < B → ¬ S b) : Below B w w' := ⟨h.bel.os, h.bel.tape, h.bel.output, h.bel.size, fun b hb => h.keep b (by omega) (hs b hb)⟩
theorem Fr.alloc (h : Fr S w w') (o : Obj) : Fr S w (w'.alloc o) := h.tr (Fr.of_below (below_alloc (Below.refl _ _)))
theorem Fr.drewN (h : Fr S w w') (n : Nat) : Fr S w (w'.drewN n) := ⟨⟨h.bel.os, h.bel.tape, h.bel.output, h.bel.size, h.bel.block⟩, h.keep⟩
theorem Fr.drew (h : Fr S w w') : Fr S w w'.drew := ⟨⟨h.bel.os, h.bel.tape, h.bel.output, h.bel.size, h.bel.block⟩, h.keep⟩
theorem Fr.grown {row : Option Nat} (h : Fr S w w1) (g : w1.grownBy w' row) (hr : ∀ b, row = some b → S b ∨ w.heap.size ≤ b) : Fr S w w' := by
  refine h.trans (S' := fun b => row = some b) ⟨(Below.refl _ _).grown g (Nat.zero_le _) (fun _ _ => Nat.zero_le _), fun b hb hn => g.block b hb (fun e => hn e.symm)⟩ hr
theorem Fr.set (h : Fr S w w') {p i : Nat} (hp : S p ∨ w.heap.size ≤ p) (u : Value) : Fr S w (w'.setCell ⟨p, i, none⟩ u) := h.grown (grown_set w' p i u) fun b hb => by cases hb; exact hp
theorem Fr.mono (h : Fr S w w') (hs : ∀ b, S b → S' b) : Fr S' w w' := ⟨h.bel, fun b hb hn => h.keep b hb fun e => hn (hs b e)⟩
theorem Fr.blk {b : Nat} {t : TypeId} {cs : Array Value} (h : Fr S w w') (hb : Blk w b t cs) (hn : ¬ S b) : Blk w' b t cs := (h.keep b hb.lt hn).trans hb
theorem Fr.map {b : Nat} {k : TypeId} {es : List (Value × Value)} (h : Fr S w w') (hb : MapIs w k b es) (hn : ¬ S b) : MapIs w' k b es := hb.same (h.keep b hb.lt hn)
theorem Fr.kids {B : Nat} {v : Value} {l : List Tr} (h : Fr S w w') (hk : KidsAt w B v l) (hB : B ≤ w.heap.size) (hs : ∀ b, b < B → ¬ S b) : KidsAt w' B v l := hk.under (h.below hB hs)
end
/-- a map's write over a key that is there. -/
theorem MapIs.set_ {w : World} {k t e : TypeId} {b : Nat} {es : List (Value × Value)} (h : MapIs w k b es) (K : Maps.Keyed Tryd.prog k) (ht : Tryd.prog.underlying t = some (.map k e)) {key val : Value} {kl : Lit} (hkey : keyOf Tryd.prog k key = some kl) (hall : ∀ x ∈ es, x.1 = key → x.2 = val) (hin : (key, val) ∈ es) :
    ∃ w', (Instr.mapUpdate t (.map (some b)) key val).run Tryd.prog w = .ok () w' ∧ MapIs w' k b es ∧ w.grownBy w' (some b) := by
  obtain ⟨arr, clock, hb, rfl, hk⟩ := h
  rcases K.find w hkey arr.toList hk with ⟨h1, h2⟩ | ⟨j, e0, h1, h2, h3⟩
  · obtain ⟨x, hx, hxe⟩ := List.mem_map.1 hin
    simp only [Prod.mk.injEq] at hxe
    exact absurd hxe.1 (h2 x hx)
  · have hjl : j < arr.size := by have := (List.getElem?_eq_some_iff.1 h2).1; simpa using this
    have hje : arr[j]? = some e0 := by rw [← Array.getElem?_toList]; exact h2
    have hv : e0.val = val := hall (e0.key, e0.val) (List.mem_map.2 ⟨e0, List.mem_of_getElem? h2, rfl⟩) h3
    have he0 : ({ e0 with key := key, val := val } : MapEntry) = e0 := by cases e0; simp at h3 hv; subst h3; subst hv; rfl
    have hlist : (arr.modify j (fun e' => { e' with key := key, val := val })).toList = arr.toList := by
      rw [Array.toList_modify]
      apply List.ext_getElem?
      intro i
      rw [List.getElem?_modify]
      by_cases hij : j = i
      · subst hij; rw [h2]; simp only [if_true]; exact congrArg some he0
      · simp only [hij, if_false]; cases arr.toList[i]? <;> rfl
    refine ⟨ChangeMaps.setBlock w b (.map (arr.modify j (fun e' => { e' with key := key, val := val })) clock), ?_, ⟨_, _, ChangeMaps.heap_setBlock_same hb _, by rw [hlist], by rw [hlist]; exact hk⟩, ⟨rfl, rfl, rfl, by simp [ChangeMaps.setBlock], fun i _ hi => ChangeMaps.heap_setBlock_other hb _ (fun e => hi (by rw [e]))⟩⟩
    simp [Instr.mapUpdate, run_underlying ht, MapKept.run_getObj_map hb, K.check w false hkey, h1, hje, h3, K.stays w hkey, MapKept.run_setObj_map _ hb, Result.andThen, ChangeMaps.setBlock]
end Go.Proofs.YtlenhcmgcgccmaaDoor
namespace Go.Proofs.YtlenhcmgcgccmaaDoor
open Go.RowKit Go
set_option linter.unusedVariables false
set_option linter.unusedSimpArgs false
/-- where names are used, and declared. -/
structure Pl where
  uses : List Int
  vars : List Int
abbrev PM := Pl → Bool × Pl
def onceP (a : Int) (l : List Int) : Bool × List Int := if a ∈ l then (false, l) else (true, l ++ [a])
def andM (m k : PM) : PM := fun s => match m s with
  | (true, s') => k s'
  | (false, s') => (false, s')
def okM (b : Bool) : PM := fun s => (b, s)
def useM (a : Int) : PM := fun s => ((onceP a s.uses).1, ⟨(onceP a s.uses).2, s.vars⟩)
def varM (a : Int) : PM := fun s => ((onceP a s.vars).1, ⟨s.uses, (onceP a s.vars).2⟩)
def allM (f : Tr → PM) : List Tr → PM
  | [] => okM true
  | t :: l => andM (f t) (allM f l)
structure RF where
  st : Tr → Bool → PM
  ex : Tr → Bool → PM
  fn : Tr → PM
def missing (t : Tr) : Bool := decide (t.kind = 0) && t.kids.isEmpty
def fieldsOf (s : ByteArray) : List ByteArray := (Lib.fields s.data.toList).map fun l => ⟨l.toArray⟩
def sg (s all : ByteArray) : Bool := decide (s ≠ ⟨#[]⟩) && Lib.containsS (fieldsOf all) s
def target (t : Tr) : Bool := decide (t.kind = 3) || decide (t.kind = 13)
def manyP (k : Int) : Int :=
  if k = 34 ∨ k = 41 ∨ k = 42 ∨ k = 46 then 1 else if k = 36 ∨ k = 38 then 2 else if k = 35 ∨ k = 43 then 3 else if k = 37 then 4 else if k = 39 ∨ k = 40 ∨ k = 45 then 0 else -1
section
variable (F : RF)
def maybeM (t : Tr) (gen : Bool) : PM := if missing t = true then okM true else F.ex t gen
def elemM (gen : Bool) (t : Tr) : PM :=
  if t.kind = 31 then (match t.kids with
    | [k] => andM (varM t.at_) (maybeM F k gen)
    | _ => okM false)
  else if t.kind = 32 then (match t.kids with
    | [k] => andM (varM t.at_) (F.ex k gen)
    | _ => okM false)
  else if t.kind = 33 then andM (varM t.at_) (F.fn t)
  else F.st t gen
def blockM (l : List Tr) (gen : Bool) : PM := allM (elemM F gen) l
def parM (t : Tr) : PM := if t.kind = 3 ∧ t.kids = [] then varM t.at_ else okM false
def star : ByteArray := ⟨#[42]⟩
def functionM (t : Tr) : PM := match t.kids.getLast? with
  | none => okM false
  | some body => if (t.op = ⟨#[]⟩ ∨ t.op = star) ∧ body.kind = 44 then andM (allM parM t.kids.dropLast) (blockM F body.kids (decide (t.op = star))) else okM false
def shutM (t : Tr) (free gen : Bool) : PM := if (missing t && free) = true then okM true else if t.kind = 44 then blockM F t.kids gen else okM false
def wLetConst : ByteArray := ⟨#[108, 101, 116, 32, 99, 111, 110, 115, 116]⟩
def stP (t : Tr) (gen : Bool) : PM :=
  if t.kind = 44 then blockM F t.kids gen
  else if (t.kids.length : Int) ≠ manyP t.kind then okM false
  else if t.kind = 34 then (match t.kids with
    | [a] => maybeM F a gen
    | _ => okM false)
  else if t.kind = 42 ∨ t.kind = 46 then (match t.kids with
    | [a] => F.ex a gen
    | _ => okM false)
  else if t.kind = 41 then (match t.kids with
    | [a] => F.st a gen
    | _ => okM false)
  else if t.kind = 36 then (match t.kids with
    | [a, b] => andM (F.ex a gen) (F.st b gen)
    | _ => okM false)
  else if t.kind = 35 then (match t.kids with
    | [a, b, c] => andM (F.ex a gen) (andM (F.st b gen) (if missing c = true then okM true else F.st c gen))
    | _ => okM false)
  else if t.kind = 37 then (match t.kids with
    | [a, b, c, d] => andM (maybeM F a gen) (andM (maybeM F b gen) (andM (maybeM F c gen) (F.st d gen)))
    | _ => okM false)
  else if t.kind = 38 then (match t.kids with
    | [a, b] => if sg t.op wLetConst = true then andM (varM t.at_) (andM (F.ex a gen) (F.st b gen)) else okM false
    | _ => okM false)
  else if t.kind = 43 then (match t.kids with
    | [a, b, c] => andM (if b.kind = 0 then okM true else varM t.at_) (if b.kind ≠ 0 ∨ c.kind ≠ 0 then andM (shutM F a false gen) (andM (shutM F b true gen) (shutM F c true gen)) else okM false)
    | _ => okM false)
  else okM true
def wInit : ByteArray := ⟨#[105, 110, 105, 116, 32, 103, 101, 116, 32, 115, 101, 116]⟩
def wUnary : ByteArray := ⟨#[100, 101, 108, 101, 116, 101, 32, 118, 111, 105, 100, 32, 116, 121, 112, 101, 111, 102, 32, 43, 32, 45, 32, 126, 32, 33]⟩
def wUpdate : ByteArray := ⟨#[43, 43, 32, 45, 45]⟩
def wPrePost : ByteArray := ⟨#[112, 114, 101, 32, 112, 111, 115, 116]⟩
def wLogic : ByteArray := ⟨#[38, 38, 32, 124, 124]⟩
def wAssign : ByteArray := ⟨#[61, 32, 43, 61, 32, 45, 61, 32, 42, 61, 32, 47, 61, 32, 37, 61, 32, 60, 60, 61, 32, 62, 62, 61, 32, 62, 62, 62, 61, 32, 38, 61, 32, 124, 61, 32, 94, 61]⟩
def wBinary : ByteArray := ⟨#[43, 32, 45, 32, 42, 32, 47, 32, 37, 32, 60, 60, 32, 62, 62, 32, 62, 62, 62, 32, 38, 32, 124, 32, 94, 32, 60, 32, 60, 61, 32, 62, 32, 62, 61, 32, 61, 61, 32, 33, 61, 32, 61, 61, 61, 32, 33, 61, 61, 32, 105, 110, 32, 105, 110, 115, 116, 97, 110, 99, 101, 111, 102]⟩
def exsM (l : List Tr) (gen : Bool) : PM := allM (fun t => F.ex t gen) l
def propM (gen : Bool) (t : Tr) : PM := if t.kind = 11 ∧ t.kids.length = 2 ∧ sg t.op wInit = true then exsM F t.kids gen else okM false
def exP (t : Tr) (gen : Bool) : PM :=
  if t.kind = 1 ∨ t.kind = 2 ∨ t.kind = 4 ∨ t.kind = 5 ∨ t.kind = 6 ∨ t.kind = 7 ∨ t.kind = 8 then okM (decide (t.kids.length = 0))
  else if t.kind = 3 then (if t.kids.length = 0 then useM t.at_ else okM false)
  else if t.kind = 9 then exsM F t.kids gen
  else if t.kind = 10 then allM (propM F gen) t.kids
  else if t.kind = 12 then andM (if t.name = ⟨#[]⟩ then okM true else varM t.at_) (functionM F t)
  else if t.kind = 13 then (if t.kids.length = 2 then exsM F t.kids gen else okM false)
  else if t.kind = 14 ∨ t.kind = 15 then (if 0 < t.kids.length then exsM F t.kids gen else okM false)
  else if t.kind = 16 then (if t.kids.length = 1 ∧ sg t.op wUnary = true then exsM F t.kids gen else okM false)
  else if t.kind = 17 then (match t.kids with
    | [a] => if sg t.op wUpdate = true ∧ sg t.name wPrePost = true ∧ target a = true then exsM F [a] gen else okM false
    | _ => okM false)
  else if t.kind = 18 then (if t.kids.length = 2 ∧ sg t.op wBinary = true then exsM F t.kids gen else okM false)
  else if t.kind = 19 then (if t.kids.length = 2 ∧ sg t.op wLogic = true then exsM F t.kids gen else okM false)
  else if t.kind = 20 then (if t.kids.length = 3 then exsM F t.kids gen else okM false)
  else if t.kind = 21 then (match t.kids with
    | [a, b] => if sg t.op wAssign = true ∧ target a = true then exsM F [a, b] gen else okM false
    | _ => okM false)
  else if t.kind = 22 then (match t.kids with
    | [a] => if gen = true then maybeM F a gen else okM false
    | _ => okM false)
  else okM false
def stepR : RF := ⟨stP F, exP F, functionM F⟩
end
def iterR : Nat → RF
  | 0 => ⟨fun _ _ => okM false, fun _ _ => okM false, fun _ => okM false⟩
  | n + 1 => stepR (iterR n)
/-- is a tree a program's? -/
def fitsP (t : Tr) : Bool := t.fitsD 300 && decide (t.size ≤ 131072)
def rightP (t : Tr) : Bool := decide (t.kind = 47) && (fitsP t && (blockM (iterR 300) t.kids false ⟨[], []⟩).1)
/-! once -/
def ents (l : List Int) : List (Value × Value) := l.map fun a => (.int .i64 a, .bool true)
theorem MapIs.look0 {w : World} {k t e : TypeId} {b : Nat} {es : List (Value × Value)} (h : MapIs w k b es) (K : Maps.Keyed Tryd.prog k) (ht : Tryd.prog.underlying t = some (.map k e)) {z : Value} (hz : (zeroValue e).run Tryd.prog w = .ok z w) {key : Value} {kl : Lit} (hkey : keyOf Tryd.prog k key = some kl) :
    ((Instr.lookup t (.map (some b)) key false).run Tryd.prog w = .ok z w ∧ ∀ x ∈ es, x.1 ≠ key) ∨ ∃ v, (key, v) ∈ es ∧ (Instr.lookup t (.map (some b)) key false).run Tryd.prog w = .ok v w := by
  obtain ⟨arr, clock, hb, rfl, hk⟩ := h
  rcases K.find w hkey arr.toList hk with ⟨h1, h2⟩ | ⟨j, e0, h1, h2, h3⟩
  · refine .inl ⟨by simp [Instr.lookup, run_underlying ht, MapKept.run_getObj_map hb, K.check w _ hkey, h1, hz, Result.andThen], fun x hx => ?_⟩
    obtain ⟨y, hy, rfl⟩ := List.mem_map.1 hx
    exact h2 y hy
  · refine .inr ⟨e0.val, List.mem_map.2 ⟨e0, List.mem_of_getElem? h2, by rw [h3]⟩, by simp [Instr.lookup, run_underlying ht, MapKept.run_getObj_map hb, K.check w _ hkey, h1, Result.andThen]⟩
theorem mem_ents {l : List Int} {a : Int} {v : Value} (h : ((.int .i64 a : Value), v) ∈ ents l) : a ∈ l ∧ v = .bool true := by
  obtain ⟨x, hx, he⟩ := List.mem_map.1 h
  simp only [Prod.mk.injEq, Value.int.injEq, true_and] at he
  obtain ⟨rfl, rfl⟩ := he
  exact ⟨hx, rfl⟩
set_option maxRecDepth 100000 in
theorem once_all (w : World) (m : Nat) (a : Int) (l : List Int) (ha : (Lit.int .i64 a).wf = true) (h : MapIs w 3 m (ents l)) :
    Calls Tryd.prog 34 #[.map (some m), .int .i64 a] w fun e w' => e = .returned (.bool (onceP a l).1) ∧ MapIs w' 3 m (ents (onceP a l).2) ∧ w.grownBy w' (some m) := by
  have hkey := Maps.keyOf_int_mk Tryd.underlying3 ha
  have hn0 : ∀ w1, (Op.unary .not (.bool false)).run Tryd.prog w1 = .ok (.bool true) w1 := fun _ => rfl
  have hn1 : ∀ w1, (Op.unary .not (.bool true)).run Tryd.prog w1 = .ok (.bool false) w1 := fun _ => rfl
  by_cases hm : a ∈ l
  · obtain ⟨w1, hp, h1, h2⟩ := h.set_ key3 Tryd.underlying72 (val := .bool true) hkey (fun x hx hxe => by
      obtain ⟨y, hy, rfl⟩ := List.mem_map.1 hx; rfl) (List.mem_map.2 ⟨a, hm, rfl⟩)
    have hl : (Instr.lookup 72 (.map (some m)) (.int .i64 a) false).run Tryd.prog w = .ok (.bool true) w := by
      rcases h.look0 key3 Tryd.underlying72 (zero4 w) hkey with ⟨_, hno⟩ | ⟨v, hv, hr⟩
      · exact absurd rfl (hno _ (List.mem_map.2 ⟨a, hm, rfl⟩))
      · rw [(mem_ents hv).2] at hr; exact hr
    have H1 := Lib.hid h1
    have H2 := Lib.hid h2
    have HM := Lib.hid hm
    clear h h1 h2 ha hm hkey
    go_enter Tryd.func34, Tryd.ntmps34
    go_wp2
    go_ret
    have := HM.out
    refine ⟨by simp [onceP, this], by simp only [onceP, this, if_true]; exact H1.out, H2.out⟩
  · obtain ⟨w1, hp, h1, h2⟩ := h.push key3 Tryd.underlying72 (val := .bool true) hkey (fun x hx e => hm (by
      obtain ⟨x1, x2⟩ := x; simp only at e; subst e; exact (mem_ents hx).1))
    have hl : (Instr.lookup 72 (.map (some m)) (.int .i64 a) false).run Tryd.prog w = .ok (.bool false) w := by
      rcases h.look0 key3 Tryd.underlying72 (zero4 w) hkey with ⟨hr, hno⟩ | ⟨v, hv, hr⟩
      · exact hr
      · exact absurd (mem_ents hv).1 hm
    have H1 := Lib.hid h1
    have H2 := Lib.hid h2
    have HM := Lib.hid hm
    clear h h1 h2 ha hm hkey
    go_enter Tryd.func34, Tryd.ntmps34
    go_wp2
    go_ret
    have := HM.out
    refine ⟨by simp [onceP, this], by simp only [onceP, this, if_false]; rw [show ents (l ++ [a]) = ents l ++ [(.int .i64 a, .bool true)] by simp [ents]]; exact H1.out, H2.out⟩
end Go.Proofs.YtlenhcmgcgccmaaDoor
namespace Go.Proofs.YtlenhcmgcgccmaaDoor
open Go.RowKit Go
set_option linter.unusedVariables false
set_option linter.unusedSimpArgs false
def SR (mu mv : Nat) : Nat → Prop := fun b => b = mu ∨ b = mv
/-- the table of spaces, now and behind whatever the call does at its own blocks. -/
def Tabl (B : Nat) (w : World) : Prop := ∀ w', Below B w w' → Lib.TabIs Tryd.prog w' "strings.asciiSpace" .u8 Lib.asciiSpaceTab
theorem Tabl.on {B : Nat} {w w1 : World} (h : Tabl B w) (hb : Below B w w1) : Tabl B w1 := fun w' h' => h w' (hb.trans h')
theorem Tabl.here {B : Nat} {w : World} (h : Tabl B w) : Lib.TabIs Tryd.prog w "strings.asciiSpace" .u8 Lib.asciiSpaceTab := h w (Below.refl _ _)
theorem tabl_of {w : World} (h : Lib.TabIs Tryd.prog w "strings.asciiSpace" .u8 Lib.asciiSpaceTab) : Tabl w.heap.size w := fun w' hb => Joins.tab_stays (P := Tryd.prog) (g := 0) (by kernel_rfl) h hb (Nat.le_refl _)
structure RW (w : World) (B pt mu mv : Nat) (nv : Value) (s : Pl) : Prop where
  tab : Tabl B w
  size : B ≤ w.heap.size
  hp : B ≤ pt
  hu : B ≤ mu
  hv : B ≤ mv
  blk : Blk w pt 74 #[.map (some mu), .map (some mv), nv]
  mu_ : MapIs w 3 mu (ents s.uses)
  mv_ : MapIs w 3 mv (ents s.vars)
  ne : mu ≠ mv
section
variable {w w' : World} {B pt mu mv : Nat} {nv : Value} {s : Pl}
theorem RW.fr (h : RW w B pt mu mv nv s) (hb : Below w.heap.size w w') : RW w' B pt mu mv nv s :=
  ⟨h.tab.on (hb.mono h.size), Nat.le_trans h.size hb.size, h.hp, h.hu, h.hv, h.blk.below hb h.blk.lt, h.mu_.same (hb.block _ h.mu_.lt), h.mv_.same (hb.block _ h.mv_.lt), h.ne⟩
theorem RW.ptu (h : RW w B pt mu mv nv s) : pt ≠ mu := fun e => by subst e; exact h.mu_.no_cells h.blk
theorem RW.ptv (h : RW w B pt mu mv nv s) : pt ≠ mv := fun e => by subst e; exact h.mv_.no_cells h.blk
theorem RW.used (h : RW w B pt mu mv nv s) {l : List Int} (hm : MapIs w' 3 mu (ents l)) (g : w.grownBy w' (some mu)) : RW w' B pt mu mv nv ⟨l, s.vars⟩ :=
  ⟨h.tab.on ((Below.refl _ _).grown g h.size (fun b hb => by cases hb; exact h.hu)), Nat.le_trans h.size g.size, h.hp, h.hu, h.hv, h.blk.grown g (fun e => h.ptu (Option.some.inj e)), hm, h.mv_.same (g.block _ h.mv_.lt (fun e => h.ne (Option.some.inj e).symm)), h.ne⟩
theorem RW.vared (h : RW w B pt mu mv nv s) {l : List Int} (hm : MapIs w' 3 mv (ents l)) (g : w.grownBy w' (some mv)) : RW w' B pt mu mv nv ⟨s.uses, l⟩ :=
  ⟨h.tab.on ((Below.refl _ _).grown g h.size (fun b hb => by cases hb; exact h.hv)), Nat.le_trans h.size g.size, h.hp, h.hu, h.hv, h.blk.grown g (fun e => h.ptv (Option.some.inj e)), h.mu_.same (g.block _ h.mu_.lt (fun e => h.ne (Option.some.inj e))), hm, h.ne⟩
theorem Fr.root (h : RW w B pt mu mv nv s) (f : Fr (SR mu mv) w w') : Below B w w' := f.below h.size fun b hb e => by
  rcases e with e | e
  · have := h.hu; omega
  · have := h.hv; omega
theorem RW.cells (h : RW w B pt mu mv nv s) : w.cell? ⟨pt, 0, none⟩ = some (.map (some mu)) ∧ w.cell? ⟨pt, 1, none⟩ = some (.map (some mv)) := ⟨h.blk.cell 0, h.blk.cell 1⟩
end
/-- what a function of Right's says behind its call. -/
def RP (w : World) (B pt mu mv : Nat) (nv : Value) (r : Bool × Pl) (e : Ending) (w' : World) : Prop := e = .returned (.bool r.1) ∧ RW w' B pt mu mv nv r.2 ∧ Fr (SR mu mv) w w'
structure GoodR (F : RF) (n : Nat) : Prop where
  st : ∀ (w : World) (B pt mu mv : Nat) (nv : Value) (s : Pl) (t : Tr) (kv : Value) (gen : Bool), RW w B pt mu mv nv s → t.fitsD n = true → t.wf1 → KidsAt w B kv t.kids →
    Calls Tryd.prog 38 #[.pointer (some ⟨pt, 0, none⟩), .agg #[.int .i64 t.kind, .int .i64 t.at_, .string t.name, .int .u64 t.num, .string t.op, kv], .bool gen] w (RP w B pt mu mv nv (F.st t gen s))
  ex : ∀ (w : World) (B pt mu mv : Nat) (nv : Value) (s : Pl) (t : Tr) (kv : Value) (gen : Bool), RW w B pt mu mv nv s → t.fitsD n = true → t.wf1 → KidsAt w B kv t.kids →
    Calls Tryd.prog 36 #[.pointer (some ⟨pt, 0, none⟩), .agg #[.int .i64 t.kind, .int .i64 t.at_, .string t.name, .int .u64 t.num, .string t.op, kv], .bool gen] w (RP w B pt mu mv nv (F.ex t gen s))
  fn : ∀ (w : World) (B pt mu mv : Nat) (nv : Value) (s : Pl) (t : Tr) (kv : Value), RW w B pt mu mv nv s → t.fitsD n = true → t.wf1 → KidsAt w B kv t.kids →
    Calls Tryd.prog 37 #[.pointer (some ⟨pt, 0, none⟩), .agg #[.int .i64 t.kind, .int .i64 t.at_, .string t.name, .int .u64 t.num, .string t.op, kv]] w (RP w B pt mu mv nv (F.fn t s))
set_option maxRecDepth 100000 in
theorem missing_calls (w : World) (k : Int) (x1 x2 x3 x4 : Value) (h1 : x1.oneCell' = true) (h2 : x2.oneCell' = true) (h3 : x3.oneCell' = true) (h4 : x4.oneCell' = true) (A : Option Addr) (n c : Nat) :
    Calls Tryd.prog 54 #[.agg #[.int .i64 k, x1, x2, x3, x4, .slice A n c]] w fun e w' => e = .returned (.bool (decide (k = 0) && decide (n = 0))) ∧ Below w.heap.size w w' := by
  have W1 := Lib.hid (below_alloc (o := .cells #[.int .i64 k, x1, x2, x3, x4, .slice A n c] 31) (Below.refl w.heap.size w))
  by_cases hk : k = 0
  · subst hk
    by_cases hn : n = 0
    · subst hn
      go_enter Tryd.func54, Tryd.ntmps54
      go_wp2
      go_ret
      exact ⟨rfl, W1.out⟩
    · have hd : decide (n = 0) = false := by simp [hn]
      have hn' : ((n : Int) == 0) = false := by simp; omega
      rw [hd]
      clear hn hd
      go_enter Tryd.func54, Tryd.ntmps54
      go_wp2
      go_ret
      exact ⟨rfl, W1.out⟩
  · have hd : decide (k = 0) = false := by simp [hk]
    have hk' : (k == 0) = false := by simp [hk]
    rw [hd]
    clear hk hd
    go_enter Tryd.func54, Tryd.ntmps54
    go_wp2
    go_ret
    exact ⟨rfl, W1.out⟩
set_option maxRecDepth 100000 in
theorem target_calls (w : World) (k : Int) (x1 x2 x3 x4 x5 : Value) (h1 : x1.oneCell' = true) (h2 : x2.oneCell' = true) (h3 : x3.oneCell' = true) (h4 : x4.oneCell' = true) (h5 : x5.oneCell' = true) :
    Calls Tryd.prog 57 #[.agg #[.int .i64 k, x1, x2, x3, x4, x5]] w fun e w' => e = .returned (.bool (decide (k = 3) || decide (k = 13))) ∧ Below w.heap.size w w' := by
  have W1 := Lib.hid (below_alloc (o := .cells #[.int .i64 k, x1, x2, x3, x4, x5] 31) (Below.refl w.heap.size w))
  by_cases hk : k = 3
  · subst hk
    go_enter Tryd.func57, Tryd.ntmps57
    go_wp2
    go_ret
    exact ⟨rfl, W1.out⟩
  · have hd : decide (k = 3) = false := by simp [hk]
    have hk' : (k == 3) = false := by simp [hk]
    rw [hd]
    clear hk hd
    by_cases hk : k = 13
    · subst hk
      go_enter Tryd.func57, Tryd.ntmps57
      go_wp2
      go_ret
      exact ⟨rfl, W1.out⟩
    · have hd : decide (k = 13) = false := by simp [hk]
      have hk'' : (k == 13) = false := by simp [hk]
      rw [hd]
      clear hk hd
      go_enter Tryd.func57, Tryd.ntmps57
      go_wp2
      go_ret
      exact ⟨rfl, W1.out⟩
set_option maxRecDepth 100000 in
theorem many_calls (w : World) (k : Int) : Calls Tryd.prog 58 #[.int .i64 k] w fun e w' => e = .returned (.int .i64 (manyP k)) ∧ w = w' := by
  by_cases h34 : k = 34
  · subst h34; go_enter Tryd.func58, Tryd.ntmps58; go_wp2; go_ret; exact ⟨rfl, rfl⟩
  by_cases h41 : k = 41
  · subst h41; go_enter Tryd.func58, Tryd.ntmps58; go_wp2; go_ret; exact ⟨rfl, rfl⟩
  by_cases h42 : k = 42
  · subst h42; go_enter Tryd.func58, Tryd.ntmps58; go_wp2; go_ret; exact ⟨rfl, rfl⟩
  by_cases h46 : k = 46
  · subst h46; go_enter Tryd.func58, Tryd.ntmps58; go_wp2; go_ret; exact ⟨rfl, rfl⟩
  by_cases h36 : k = 36
  · subst h36; go_enter Tryd.func58, Tryd.ntmps58; go_wp2; go_ret; exact ⟨rfl, rfl⟩
  by_cases h38 : k = 38
  · subst h38; go_enter Tryd.func58, Tryd.ntmps58; go_wp2; go_ret; exact ⟨rfl, rfl⟩
  by_cases h35 : k = 35
  · subst h35; go_enter Tryd.func58, Tryd.ntmps58; go_wp2; go_ret; exact ⟨rfl, rfl⟩
  by_cases h43 : k = 43
  · subst h43; go_enter Tryd.func58, Tryd.ntmps58; go_wp2; go_ret; exact ⟨rfl, rfl⟩
  by_cases h37 : k = 37
  · subst h37; go_enter Tryd.func58, Tryd.ntmps58; go_wp2; go_ret; exact ⟨rfl, rfl⟩
  by_cases h39 : k = 39
  · subst h39; go_enter Tryd.func58, Tryd.ntmps58; go_wp2; go_ret; exact ⟨rfl, rfl⟩
  by_cases h40 : k = 40
  · subst h40; go_enter Tryd.func58, Tryd.ntmps58; go_wp2; go_ret; exact ⟨rfl, rfl⟩
  by_cases h45 : k = 45
  · subst h45; go_enter Tryd.func58, Tryd.ntmps58; go_wp2; go_ret; exact ⟨rfl, rfl⟩
  have e34 : (k == 34) = false := by simp [h34]
  have e41 : (k == 41) = false := by simp [h41]
  have e42 : (k == 42) = false := by simp [h42]
  have e46 : (k == 46) = false := by simp [h46]
  have e36 : (k == 36) = false := by simp [h36]
  have e38 : (k == 38) = false := by simp [h38]
  have e35 : (k == 35) = false := by simp [h35]
  have e43 : (k == 43) = false := by simp [h43]
  have e37 : (k == 37) = false := by simp [h37]
  have e39 : (k == 39) = false := by simp [h39]
  have e40 : (k == 40) = false := by simp [h40]
  have e45 : (k == 45) = false := by simp [h45]
  have hm : manyP k = -1 := by simp [manyP, *]
  rw [hm]
  clear hm h34 h41 h42 h46 h36 h38 h35 h43 h37 h39 h40 h45
  go_enter Tryd.func58, Tryd.ntmps58
  go_wp2
  go_ret
  exact ⟨rfl, rfl⟩
theorem toList_ne {s : ByteArray} (h : ¬ s = ⟨#[]⟩) : ¬ s.toList = [] := fun e => h (by
  have := str_eq s ⟨#[]⟩
  rw [e] at this
  simpa using this.symm)
theorem fields_blk (w : World) (l : List (List UInt8)) (j : Nat) (hj : j < l.length) : (w.alloc (.cells (l.map fun x => Value.string ⟨x.toArray⟩).toArray 9)).cell? ⟨w.heap.size, 0 + j, none⟩ = some (.string ((l.map fun x => (⟨x.toArray⟩ : ByteArray)).getD j ByteArray.empty)) := by
  rw [(Blk.new w 9 _).cell, List.getElem?_toArray, List.getElem?_map, Nat.zero_add, List.getElem?_eq_getElem hj, Option.map_some]
  simp [List.getD_eq_getElem?_getD, List.getElem?_map, List.getElem?_eq_getElem hj]
set_option maxRecDepth 100000 in
theorem signs_calls (w : World) (s all : ByteArray) (htab : Lib.TabIs Tryd.prog w "strings.asciiSpace" .u8 Lib.asciiSpaceTab) (hs : all.size < 1000000) (ha : ∀ (j : Nat) b, all.data.toList[j]? = some b → b.toNat < 128) (hf : (Lib.fields all.data.toList).length ≤ 1000000) :
    Calls Tryd.prog 56 #[.string s, .string all] w fun e w' => e = .returned (.bool (sg s all)) ∧ Below w.heap.size w w' := by
  have FC := Lib.hid (Tryd.strings_Fields all w (by omega) ha htab)
  have HL := Lib.hid (show (fieldsOf all).length = (Lib.fields all.data.toList).length by simp [fieldsOf])
  have CC := Lib.hid (Tryd.slices_Contains_string w.heap.size 0 (Lib.fields all.data.toList).length (Lib.fields all.data.toList).length (fieldsOf all) s (w.alloc (.cells ((Lib.fields all.data.toList).map fun l => Value.string ⟨l.toArray⟩).toArray 9)) (by rw [HL.out]; exact Nat.le_refl _) (by omega) (fun j hj => fields_blk w _ j (by rw [← HL.out]; exact hj)))
  have hgo : sg s all = (decide (s ≠ ⟨#[]⟩) && Lib.containsS ((fieldsOf all).take (Lib.fields all.data.toList).length) s) := by rw [← HL.out, List.take_length]; rfl
  have W1 := Lib.hid (below_alloc (o := .cells ((Lib.fields all.data.toList).map fun l => Value.string ⟨l.toArray⟩).toArray 9) (Below.refl w.heap.size w))
  rw [hgo]
  clear hgo ha hs htab HL
  generalize Lib.fields all.data.toList = L at *
  by_cases he : s = ⟨#[]⟩
  · subst he
    clear FC CC W1
    go_enter Tryd.func56, Tryd.ntmps56
    go_wp2
    go_ret
    exact ⟨rfl, Below.refl _ _⟩
  · rw [show decide (s ≠ ⟨#[]⟩) = true by simp [he], Bool.true_and]
    have hq := toList_ne he
    clear he
    generalize Lib.containsS _ _ = b at *
    go_enter Tryd.func56, Tryd.ntmps56
    go_wp2_with (first | (go_at_call 70; (with_reducible refine FC.out.mono ?_); rintro e w1 ⟨rfl, rfl⟩) | (go_at_call 69; (with_reducible refine CC.out.mono ?_); rintro e w1 ⟨rfl, rfl⟩))
    go_ret
    refine ⟨?_, W1.out⟩
    show Ending.returned (.bool (!s.toList.isEmpty && b)) = _
    simp [hq]
end Go.Proofs.YtlenhcmgcgccmaaDoor
namespace Go.Proofs.YtlenhcmgcgccmaaDoor
open Go.RowKit Go
set_option linter.unusedVariables false
set_option linter.unusedSimpArgs false
theorem take_succ_at {α : Type} {l : List α} {j : Nat} {x : α} (h : l[j]? = some x) : l.take (j + 1) = l.take j ++ [x] := by
  obtain ⟨h1, h2⟩ := List.getElem?_eq_some_iff.1 h
  rw [← h2, List.take_succ_eq_append_getElem h1]
theorem sizes_take_le (l : List Tr) (j : Nat) : Tr.sizes (l.take j) ≤ Tr.sizes l := by
  have := Tr.sizes_append (l.take j) (l.drop j)
  rw [List.take_append_drop] at this
  omega
theorem sizes_at {l : List Tr} {j : Nat} {t : Tr} (h : l[j]? = some t) : Tr.sizes (l.take j) + t.size ≤ Tr.sizes l := by
  have := sizes_take_le l (j + 1)
  rw [take_succ_at h, Tr.sizes_append, Tr.sizes_cons, Tr.sizes_nil] at this
  omega
def fitsB (m : Nat) (n : Int) (t : Tr) : Bool := t.fitsD m && decide (n + (t.size : Int) ≤ 131072)
set_option maxRecDepth 100000 in
set_option maxHeartbeats 4000000 in
theorem fits_all : ∀ (m : Nat), m ≤ 300 → ∀ (w : World) (B pt : Nat) (u v : Value) (n : Int) (t : Tr) (kv : Value), 0 ≤ n → n ≤ 131072 → B ≤ w.heap.size → B ≤ pt → Blk w pt 74 #[u, v, .int .i64 n] → KidsAt w B kv t.kids →
    Calls Tryd.prog 25 #[.pointer (some ⟨pt, 0, none⟩), .agg #[.int .i64 t.kind, .int .i64 t.at_, .string t.name, .int .u64 t.num, .string t.op, kv], .int .i64 (m : Int)] w fun e w' => ∃ n' : Int, e = .returned (.bool (fitsB m n t)) ∧ Blk w' pt 74 #[u, v, .int .i64 n'] ∧ w.grownBy w' (some pt) ∧ 0 ≤ n' ∧ n' ≤ 131073 ∧ (fitsB m n t = true → n' = n + t.size) := by
  intro m
  induction m with
  | zero =>
    intro _ w B pt u v n t kv h0 hn hB hp hw hk
    have c2 := hw.cell 2
    simp only [List.getElem?_toArray, List.getElem?_cons_succ, List.getElem?_cons_zero] at c2
    have f2 := hw.frozen 2
    have hpl := hw.lt
    have n1 : w.heap.size ≠ pt := by omega
    have hwr : IntKind.i64.wrap (n + 1) = n + 1 := by
      rw [IntKind.wrap_i64]; omega
    obtain ⟨A, cap, rfl, _, _, _⟩ := hk.slice
    have HR := Lib.hid hw
    have HN := Lib.hid (And.intro h0 hn)
    have hgo : fitsB 0 n t = false := rfl
    rw [hgo]
    clear hw hk hgo
    generalize t.kids.length = kl
    obtain ⟨kd, a, nm, nu, op, l⟩ := t
    simp only [Tr.nk, Tr.na, Tr.nn, Tr.nm, Tr.no, Tr.nl]
    go_enter Tryd.func25, Tryd.ntmps25
    go_wp2
    go_ret
    exact ⟨_, rfl, (HR.out.set_ 2 _).alloc _, (grown_set _ _ _ _).trans (World.grownBy_alloc _ _ _), by have := HN.out; omega, by have := HN.out; omega, fun h => by cases h⟩
  | succ m ih =>
    intro hm w B pt u v n t kv h0 hn hB hp hw hk
    have c2 := hw.cell 2
    simp only [List.getElem?_toArray, List.getElem?_cons_succ, List.getElem?_cons_zero] at c2
    have f2 := hw.frozen 2
    have hpl := hw.lt
    have n1 : w.heap.size ≠ pt := by omega
    have hwr : IntKind.i64.wrap (n + 1) = n + 1 := by
      rw [IntKind.wrap_i64]; omega
    have hwm : IntKind.i64.wrap (((m + 1 : Nat) : Int) - 1) = (m : Int) := by
      rw [IntKind.wrap_i64]; omega
    have hm0 : (((m + 1 : Nat) : Int) == 0) = false := by simp; omega
    obtain ⟨A, cap, rfl, hcl, hcm, hA⟩ := hk.slice
    have hcap : (t.kids.length : Int) ≤ 9223372036854775807 := by simp [maxLen] at hcm; omega
    have HR := Lib.hid hw
    have HN := Lib.hid (And.intro h0 hn)
    have HK := Lib.hid hk
    have HB := Lib.hid hB
    have HP := Lib.hid hp
    have HI := Lib.hid (ih (by omega))
    have hts : t.size = 1 + Tr.sizes t.kids := Tr.size_eq t
    have hfd : t.fitsD (m + 1) = t.kids.all (Tr.fitsD m) := Tr.fitsD_succ m t
    obtain ⟨kd, a, nm, nu, op, l⟩ := t
    simp only [Tr.nk, Tr.na, Tr.nn, Tr.nm, Tr.no, Tr.nl] at *
    by_cases hbig : n + 1 ≤ 131072
    · have hn1 : ¬ (131072 : Int) < n + 1 := by omega
      have HBig := Lib.hid hbig
      have HTS := Lib.hid hts
      have HFD := Lib.hid hfd
      clear hw hk ih hts hfd hcl hcm
      go_enter Tryd.func25, Tryd.ntmps25
      go_wp2
      obtain ⟨V, hV⟩ : ∃ V, (w.setCell ⟨pt, 2, none⟩ (.int .i64 (n + 1))).alloc (.cells #[.int .i64 kd, .int .i64 a, .string nm, .int .u64 nu, .string op, .slice A l.length cap] 31) = V := ⟨_, rfl⟩
      have HBl := Lib.hid (show Blk V pt 74 #[u, v, .int .i64 (n + 1)] from by rw [← hV]; exact (HR.out.set_ 2 _).alloc _)
      have HG := Lib.hid (show w.grownBy V (some pt) from by rw [← hV]; exact (grown_set _ _ _ _).trans (World.grownBy_alloc _ _ _))
      rw [hV]
      clear hV HR c2 f2
      go_loopg [28] l.length (fun fu ix wr => ∃ j : Nat, ix = .int .i64 j ∧ j + fu = l.length ∧ Blk wr pt 74 #[u, v, .int .i64 (n + 1 + (Tr.sizes (l.take j) : Int))] ∧ w.grownBy wr (some pt) ∧ (l.take j).all (Tr.fitsD m) = true ∧ n + 1 + (Tr.sizes (l.take j) : Int) ≤ 131072)
      case atStart => exact ⟨0, rfl, by omega, by simpa [Tr.sizes_nil] using HBl.out, HG.out, rfl, by simpa [Tr.sizes_nil] using HBig.out⟩
      case round =>
        obtain ⟨j, rfl, hf, h1, h2, h3, h4⟩ := hrel
        have H1 := Lib.hid h1
        have H2 := Lib.hid h2
        have H3 := Lib.hid h3
        have H4 := Lib.hid h4
        clear h1 h2 h3 h4
        rcases Nat.lt_or_ge j l.length with hj | hj
        · obtain ⟨k, hk⟩ : ∃ k, l[j]? = some k := ⟨_, List.getElem?_eq_getElem hj⟩
          obtain ⟨b, off, rfl, hbB⟩ := hA (by omega)
          have hkid := (HK.out.under ((Below.refl _ _).grown H2.out HB.out (fun g hg => by cases hg; exact HP.out))).kid hk
          obtain ⟨_, hwf, kv', hN, hKk⟩ := hkid
          obtain ⟨d0, d1, d2, d3, d4, d5⟩ := hN.get
          obtain ⟨A', cap', rfl, _, _, _⟩ := hKk.slice
          have hbw : b < wr.heap.size := Nat.lt_of_lt_of_le hbB (Nat.le_trans HB.out H2.out.size)
          have hj' : (j : Int) < (l.length : Int) := by omega
          have HS := Lib.hid (sizes_at hk)
          have KC := Lib.hid (HI.out (wr.alloc (.cells #[.int .i64 k.kind, .int .i64 k.at_, .string k.name, .int .u64 k.num, .string k.op, .slice (A') k.kids.length cap'] 31)) B pt u v (n + 1 + (Tr.sizes (l.take j) : Int)) k _ (by have := HN.out; omega) H4.out (Nat.le_trans HB.out (Nat.le_trans H2.out.size (by rw [size_alloc]; omega))) HP.out (H1.out.alloc _) (hKk.under ((Below.refl _ _).alloc (Nat.le_trans HB.out H2.out.size) _)))
          have HKt := Lib.hid (take_succ_at hk)
          obtain ⟨f', hf'⟩ : ∃ f', gk = f' + 1 := ⟨gk - 1, by omega⟩
          have HF := Lib.hid (And.intro hf hf')
          have HMem := Lib.hid (List.mem_of_getElem? hk)
          clear hf hf' hk hKk hN hwf
          cases hfb : fitsB m (n + 1 + (Tr.sizes (l.take j) : Int)) k
          · rw [hfb] at KC
            have HFb := Lib.hid hfb
            clear hfb
            go_wp2_with (first | (go_at_call 25; (with_reducible refine KC.out.mono ?_); rintro e w5 ⟨n', rfl, g1, g2, g3, g4, g5⟩; have g1 := Lib.hid g1; have g2 := Lib.hid g2; have g3 := Lib.hid g3; have g4 := Lib.hid g4; clear g5))
            go_ret
            have hfalse : fitsB (m + 1) n (.node kd a nm nu op l) = false := by
              have h := HFb.out
              unfold fitsB at h ⊢
              rw [Bool.and_eq_false_iff] at h ⊢
              rw [HFD.out, HTS.out]
              rcases h with h | h
              · left
                rw [List.all_eq_false]
                exact ⟨k, HMem.out, by simp [h]⟩
              · right
                have hs := HS.out
                simp only [decide_eq_false_iff_not] at h ⊢
                omega
            rw [hfalse]
            exact ⟨n', rfl, g1.out, (H2.out.trans (World.grownBy_alloc _ _ _)).trans g2.out, g3.out, g4.out, fun h => by cases h⟩
          · rw [hfb] at KC
            have HFb := Lib.hid hfb
            clear hfb
            go_wp2_with (first | (go_at_call 25; (with_reducible refine KC.out.mono ?_); rintro e w5 ⟨n', rfl, g1, g2, g3, g4, g5⟩; have g1 := Lib.hid g1; have g2 := Lib.hid g2; have G5 := Lib.hid (g5 rfl); clear g3 g4 g5))
            go_roundg f'
            case measure => have := HF.out; omega
            case rel =>
              have h := HFb.out
              unfold fitsB at h
              rw [Bool.and_eq_true, decide_eq_true_eq] at h
              refine ⟨j + 1, by simp, by have := HF.out; omega, ?_, (H2.out.trans (World.grownBy_alloc _ _ _)).trans g2.out, ?_, ?_⟩
              · rw [HKt.out, Tr.sizes_append, Tr.sizes_cons, Tr.sizes_nil]
                have := g1.out
                rw [G5.out] at this
                rw [show n + 1 + ((Tr.sizes (l.take j) + (k.size + 0) : Nat) : Int) = n + 1 + (Tr.sizes (l.take j) : Int) + (k.size : Int) by omega]
                exact this
              · rw [HKt.out, List.all_append, H3.out]; simp [h.1]
              · rw [HKt.out, Tr.sizes_append, Tr.sizes_cons, Tr.sizes_nil]; have := h.2; omega
        · have hjl : j = l.length := by omega
          have hj' : ¬ (j : Int) < (l.length : Int) := by omega
          have HJ := Lib.hid hjl
          clear hf hjl
          go_wp2
          go_ret
          have h3 := H3.out
          have h4 := H4.out
          have h1 := H1.out
          rw [HJ.out, List.take_length] at h3 h4 h1
          have htrue : fitsB (m + 1) n (.node kd a nm nu op l) = true := by
            unfold fitsB
            rw [HFD.out, HTS.out, h3]
            simp; omega
          rw [htrue]
          exact ⟨rfl, _, h1, H2.out, by have := HN.out; omega, by omega, fun _ => by rw [HTS.out]; omega⟩
    · have hn1 : (131072 : Int) < n + 1 := by omega
      have hfalse : fitsB (m + 1) n (.node kd a nm nu op l) = false := by
        unfold fitsB
        rw [Bool.and_eq_false_iff]
        right; rw [hts]; simp; omega
      rw [hfalse]
      clear hw hk ih hts hfd hcl hcm hbig hfalse
      go_enter Tryd.func25, Tryd.ntmps25
      go_wp2
      go_ret
      exact ⟨_, rfl, (HR.out.set_ 2 _).alloc _, (grown_set _ _ _ _).trans (World.grownBy_alloc _ _ _), by have := HN.out; omega, by have := HN.out; omega, fun h => by cases h⟩
end Go.Proofs.YtlenhcmgcgccmaaDoor
namespace Go.Proofs.YtlenhcmgcgccmaaDoor
open Go.RowKit Go
set_option linter.unusedVariables false
set_option linter.unusedSimpArgs false
theorem Fr.not_sr {w : World} {B pt mu mv : Nat} {nv : Value} {s : Pl} (h : RW w B pt mu mv nv s) {b : Nat} {t : TypeId} {cs : Array Value} (hb : Blk w b t cs) : ¬ SR mu mv b := by
  rintro (e | e)
  · subst e; exact h.mu_.no_cells hb
  · subst e; exact h.mv_.no_cells hb
section
variable (F : RF) (gen : Bool)
def badAt : List Tr → Nat → Pl → Int
  | [], _, _ => -1
  | t :: l, k, s => match F.ex t gen s with
    | (true, s') => badAt l (k + 1) s'
    | (false, _) => (k : Int)
theorem badAt_true {t : Tr} {l : List Tr} {k : Nat} {s : Pl} (h : (F.ex t gen s).1 = true) : badAt F gen (t :: l) k s = badAt F gen l (k + 1) (F.ex t gen s).2 := by
  rw [badAt]; split
  · rename_i e; rw [e]
  · rename_i e; rw [e] at h; cases h
theorem badAt_false {t : Tr} {l : List Tr} {k : Nat} {s : Pl} (h : (F.ex t gen s).1 = false) : badAt F gen (t :: l) k s = (k : Int) := by
  rw [badAt]; split
  · rename_i e; rw [e] at h; cases h
  · rfl
theorem andM_true {m k : PM} {s : Pl} (h : (m s).1 = true) : andM m k s = k (m s).2 := by
  unfold andM; split
  · rename_i e; rw [e]
  · rename_i e; rw [e] at h; cases h
theorem andM_false {m k : PM} {s : Pl} (h : (m s).1 = false) : andM m k s = (false, (m s).2) := by
  unfold andM; split
  · rename_i e; rw [e] at h; cases h
  · rename_i e; rw [e]
theorem badAt_spec : ∀ (l : List Tr) (k : Nat) (s : Pl), decide (0 ≤ badAt F gen l k s) = !(exsM F l gen s).1 := by
  intro l
  induction l with
  | nil => intro k s; rfl
  | cons t l ih =>
    intro k s
    show _ = !(andM (F.ex t gen) (exsM F l gen) s).1
    cases h : (F.ex t gen s).1
    · rw [badAt_false F gen h, andM_false h]; simp
    · rw [badAt_true F gen h, andM_true h, ih]
end
set_option maxRecDepth 100000 in
set_option maxHeartbeats 4000000 in
theorem all1_calls {F : RF} {n : Nat} (G : GoodR F n) (w : World) (B pt mu mv : Nat) (nv : Value) (s : Pl) (t : Tr) (kv : Value) (gen : Bool) (hr : RW w B pt mu mv nv s) (hd : t.fitsD n = true) (hwf : t.wf1) (hk : KidsAt w B kv t.kids)
    (bt bg : Nat) (hbt : Blk w bt 71 #[.pointer (some ⟨pt, 0, none⟩)]) (hbg : Blk w bg 4 #[.bool gen]) :
    Calls Tryd.prog 68 #[.agg #[.int .i64 t.kind, .int .i64 t.at_, .string t.name, .int .u64 t.num, .string t.op, kv], .pointer (some ⟨bt, 0, none⟩), .pointer (some ⟨bg, 0, none⟩)] w fun e w' => e = .returned (.bool (!(F.ex t gen s).1)) ∧ RW w' B pt mu mv nv (F.ex t gen s).2 ∧ Fr (SR mu mv) w w' := by
  obtain ⟨A, cap, rfl, _, _, _⟩ := hk.slice
  have W1 := below_alloc (o := .cells #[.int .i64 t.kind, .int .i64 t.at_, .string t.name, .int .u64 t.num, .string t.op, .slice A t.kids.length cap] 31) (Below.refl w.heap.size w)
  have EC := G.ex _ B pt mu mv nv s t (.slice A t.kids.length cap) gen (hr.fr W1) hd hwf (hk.under (W1.mono hr.size))
  have HF1 := Lib.hid (Fr.of_below (S := SR mu mv) W1)
  have ct := hbt.cell 0
  have cg := hbg.cell 0
  simp only [List.getElem?_toArray, List.getElem?_cons_zero] at ct cg
  have l1 := hbt.lt
  have l2 := hbg.lt
  have n1 : w.heap.size ≠ bt := by omega
  have n2 : w.heap.size ≠ bg := by omega
  have hn : ∀ (b : Bool) w1, (Op.unary .not (.bool b)).run Tryd.prog w1 = .ok (.bool (!b)) w1 := fun _ _ => rfl
  unfold RP at EC
  generalize F.ex t gen s = r at *
  have EC := Lib.hid EC
  clear hr hk hbt hbg W1 G
  go_enter Tryd.func68, Tryd.ntmps68
  go_wp2_with (first | (go_at_call 36; (with_reducible refine EC.out.mono ?_); rintro e w5 ⟨rfl, g1, g2⟩; have G1 := Lib.hid g1; have G2 := Lib.hid g2; clear g1 g2))
  go_ret
  exact ⟨rfl, G1.out, HF1.out.tr G2.out⟩
set_option maxRecDepth 100000 in
set_option maxHeartbeats 4000000 in
theorem nindex_calls {F : RF} {n : Nat} (G : GoodR F n) (w : World) (B pt mu mv : Nat) (nv : Value) (s : Pl) (l : List Tr) (A : Option Addr) (cap : Nat) (gen : Bool) (hr : RW w B pt mu mv nv s) (hd : ∀ t ∈ l, t.fitsD n = true) (hk : KidsAt w B (.slice A l.length cap) l)
    (bt bg : Nat) (hbt : Blk w bt 71 #[.pointer (some ⟨pt, 0, none⟩)]) (hbg : Blk w bg 4 #[.bool gen]) :
    Calls Tryd.prog 72 #[.slice A l.length cap, .func (.func 68) #[] #[.pointer (some ⟨bt, 0, none⟩), .pointer (some ⟨bg, 0, none⟩)]] w fun e w' => e = .returned (.int .i64 (badAt F gen l 0 s)) ∧ RW w' B pt mu mv nv (exsM F l gen s).2 ∧ Fr (SR mu mv) w w' := by
  have hcm : cap ≤ maxLen ∧ l.length ≤ cap := by
    obtain ⟨A', c', e, h1, h2, _⟩ := hk.slice
    injection e with _ _ e; subst e; exact ⟨h2, h1⟩
  have hA : 0 < l.length → ∃ b off, A = some ⟨b, off, none⟩ ∧ b < B := by
    obtain ⟨A', c', e, _, _, h⟩ := hk.slice
    injection e with e; subst e; exact h
  have hcap : (l.length : Int) ≤ 9223372036854775807 := by have := hcm.1; have := hcm.2; simp [maxLen] at *; omega
  have HC := Lib.hid (fun w' s' t kv h1 h2 h3 h4 h5 h6 => all1_calls G w' B pt mu mv nv s' t kv gen h1 h2 h3 h4 bt bg h5 h6)
  have HR := Lib.hid hr
  have HD := Lib.hid hd
  have HK := Lib.hid hk
  have HBT := Lib.hid hbt
  have HBG := Lib.hid hbg
  have NBT := Lib.hid (Fr.not_sr hr hbt)
  have NBG := Lib.hid (Fr.not_sr hr hbg)
  clear hr hd hk hbt hbg hcm
  go_enter Tryd.func72, Tryd.ntmps72
  go_wp2
  go_loopg [8] l.length (fun fu ix wr => ∃ (j : Nat) (s' : Pl), ix = .int .i64 j ∧ j + fu = l.length ∧ RW wr B pt mu mv nv s' ∧ Fr (SR mu mv) w wr ∧ badAt F gen l 0 s = badAt F gen (l.drop j) j s' ∧ exsM F l gen s = exsM F (l.drop j) gen s')
  case atStart => exact ⟨0, s, rfl, by omega, HR.out, Fr.refl _ _, rfl, rfl⟩
  case round =>
    obtain ⟨j, s', rfl, hf, h1, h2, h3, h4⟩ := hrel
    have H1 := Lib.hid h1
    have H2 := Lib.hid h2
    have H3 := Lib.hid h3
    have H4 := Lib.hid h4
    clear h1 h2 h3 h4
    rcases Nat.lt_or_ge j l.length with hj | hj
    · obtain ⟨k, hkj⟩ : ∃ k, l[j]? = some k := ⟨_, List.getElem?_eq_getElem hj⟩
      obtain ⟨b, off, rfl, hbB⟩ := hA (by omega)
      obtain ⟨_, hwf, kv', hN, hKk⟩ := (HK.out.under (HR.out |> fun r => Fr.root r H2.out)).kid hkj
      obtain ⟨d0, d1, d2, d3, d4, d5⟩ := hN.get
      have KC := HC.out wr s' k kv' H1.out (HD.out k (List.mem_of_getElem? hkj)) hwf hKk (H2.out.blk HBT.out NBT.out) (H2.out.blk HBG.out NBG.out)
      obtain ⟨A', cap', rfl, _, _, _⟩ := hKk.slice
      have hj' : (j : Int) < (l.length : Int) := by omega
      have hdr := drop_at' hkj
      obtain ⟨f', hf'⟩ : ∃ f', gk = f' + 1 := ⟨gk - 1, by omega⟩
      have HF := Lib.hid (And.intro hf hf')
      have HDr := Lib.hid hdr
      clear hf hf' hkj hKk hN hwf hdr
      cases hb : (F.ex k gen s').1
      · rw [hb] at KC
        have KC := Lib.hid KC
        have HB := Lib.hid hb
        clear hb
        go_wp2_with (first | (go_at_call 68; (with_reducible refine KC.out.mono ?_); rintro e w5 ⟨rfl, g1, g2⟩; have G1 := Lib.hid g1; have G2 := Lib.hid g2; clear g1 g2))
        go_ret
        refine ⟨by rw [H3.out, HDr.out, badAt_false F gen HB.out]; rfl, ?_, H2.out.tr G2.out⟩
        rw [H4.out, HDr.out, exsM, allM, andM_false HB.out]
        exact G1.out
      · rw [hb] at KC
        have KC := Lib.hid KC
        have HB := Lib.hid hb
        clear hb
        go_wp2_with (first | (go_at_call 68; (with_reducible refine KC.out.mono ?_); rintro e w5 ⟨rfl, g1, g2⟩; have G1 := Lib.hid g1; have G2 := Lib.hid g2; clear g1 g2))
        go_roundg f'
        case measure => have := HF.out; omega
        case rel => exact ⟨j + 1, _, by simp, by have := HF.out; omega, G1.out, H2.out.tr G2.out, by rw [H3.out, HDr.out, badAt_true F gen HB.out], by rw [H4.out, HDr.out, exsM, allM, andM_true HB.out]; rfl⟩
    · have hjl : j = l.length := by omega
      have hj' : ¬ (j : Int) < (l.length : Int) := by omega
      have HJ := Lib.hid hjl
      clear hf hjl
      go_wp2
      go_ret
      refine ⟨by rw [H3.out, HJ.out, List.drop_length]; rfl, ?_, H2.out⟩
      rw [H4.out, HJ.out, List.drop_length]
      exact H1.out
set_option maxRecDepth 100000 in
set_option maxHeartbeats 4000000 in
/-- all. -/
theorem all_calls {F : RF} {n : Nat} (G : GoodR F n) (w : World) (B pt mu mv : Nat) (nv : Value) (s : Pl) (l : List Tr) (A : Option Addr) (cap : Nat) (gen : Bool) (hr : RW w B pt mu mv nv s) (hd : ∀ t ∈ l, t.fitsD n = true) (hk : KidsAt w B (.slice A l.length cap) l) :
    Calls Tryd.prog 55 #[.pointer (some ⟨pt, 0, none⟩), .slice A l.length cap, .bool gen] w (RP w B pt mu mv nv (exsM F l gen s)) := by
  obtain ⟨V, hV⟩ : ∃ V, (w.alloc (.cells #[.pointer (some ⟨pt, 0, none⟩)] 71)).alloc (.cells #[.bool gen] 4) = V := ⟨_, rfl⟩
  have hWV : Below w.heap.size w V := by rw [← hV]; exact below_alloc (below_alloc (Below.refl _ _))
  have hb1 : Blk V w.heap.size 71 #[.pointer (some ⟨pt, 0, none⟩)] := by rw [← hV]; exact (Blk.new w 71 #[.pointer (some ⟨pt, 0, none⟩)]).alloc _
  have hb2 : Blk V (w.heap.size + 1) 4 #[.bool gen] := by
    rw [← hV]; have := Blk.new (w.alloc (.cells #[.pointer (some ⟨pt, 0, none⟩)] 71)) 4 #[.bool gen]; rwa [size_alloc] at this
  have NC := nindex_calls G V B pt mu mv nv s l A cap gen (hr.fr hWV) hd (hk.under (hWV.mono hr.size)) w.heap.size (w.heap.size + 1) hb1 hb2
  have hsp := badAt_spec F gen l 0 s
  have hmf : ∀ (fn : Fn) (first cap : Array Value) (w : World), (Instr.makeFunc fn first cap).run Tryd.prog w = .ok (.func fn first cap) w := fun _ _ _ _ => rfl
  have hn : ∀ (b : Bool) w1, (Op.unary .not (.bool b)).run Tryd.prog w1 = .ok (.bool (!b)) w1 := fun _ _ => rfl
  have HF1 := Lib.hid (Fr.of_below (S := SR mu mv) hWV)
  rw [← hV] at NC
  have NC := Lib.hid NC
  clear hr hd hk hb1 hb2 hWV
  unfold RP
  rw [show (exsM F l gen s).1 = !decide (0 ≤ badAt F gen l 0 s) by rw [hsp]; simp]
  clear hsp
  generalize badAt F gen l 0 s = i at *
  generalize exsM F l gen s = r at *
  have HVV := Lib.hid hV
  clear hV
  go_enter Tryd.func55, Tryd.ntmps55
  go_wp2_with (first | (go_at_call 67; go_in) | (go_at_call 72; (with_reducible refine NC.out.mono ?_); rintro e w5 ⟨rfl, g1, g2⟩; have G1 := Lib.hid g1; have G2 := Lib.hid g2; clear g1 g2))
  go_ret
  have g2 := G2.out
  rw [HVV.out] at g2
  exact ⟨rfl, G1.out, HF1.out.tr g2⟩
end Go.Proofs.YtlenhcmgcgccmaaDoor
namespace Go.Proofs.YtlenhcmgcgccmaaDoor
open Go.RowKit Go
set_option linter.unusedVariables false
set_option linter.unusedSimpArgs false
theorem missing_eq (t : Tr) : (decide (t.kind = 0) && decide (t.kids.length = 0)) = missing t := by
  unfold missing
  cases t.kids <;> simp
set_option maxRecDepth 100000 in
set_option maxHeartbeats 8000000 in
theorem maybe_calls {F : RF} {n : Nat} (G : GoodR F n) (w : World) (B pt mu mv : Nat) (nv : Value) (s : Pl) (t : Tr) (kv : Value) (gen : Bool) (hr : RW w B pt mu mv nv s) (hd : t.fitsD n = true) (hwf : t.wf1) (hk : KidsAt w B kv t.kids) :
    Calls Tryd.prog 35 #[.pointer (some ⟨pt, 0, none⟩), .agg #[.int .i64 t.kind, .int .i64 t.at_, .string t.name, .int .u64 t.num, .string t.op, kv], .bool gen] w (RP w B pt mu mv nv (maybeM F t gen s)) := by
  obtain ⟨A, cap, rfl, hcl, hcm, hA⟩ := hk.slice
  have W1 := below_alloc (o := .cells #[.int .i64 t.kind, .int .i64 t.at_, .string t.name, .int .u64 t.num, .string t.op, .slice A t.kids.length cap] 31) (Below.refl w.heap.size w)
  have MC := missing_calls (w.alloc (.cells #[.int .i64 t.kind, .int .i64 t.at_, .string t.name, .int .u64 t.num, .string t.op, .slice A t.kids.length cap] 31)) t.kind (.int .i64 t.at_) (.string t.name) (.int .u64 t.num) (.string t.op) rfl rfl rfl rfl A t.kids.length cap
  rw [missing_eq] at MC
  unfold maybeM RP
  cases hm : missing t
  · rw [hm] at MC
    have EC := Lib.hid (fun W (b : Below (w.alloc (.cells #[.int .i64 t.kind, .int .i64 t.at_, .string t.name, .int .u64 t.num, .string t.op, .slice A t.kids.length cap] 31)).heap.size (w.alloc (.cells #[.int .i64 t.kind, .int .i64 t.at_, .string t.name, .int .u64 t.num, .string t.op, .slice A t.kids.length cap] 31)) W) =>
      show Calls Tryd.prog 36 #[.pointer (some ⟨pt, 0, none⟩), .agg #[.int .i64 t.kind, .int .i64 t.at_, .string t.name, .int .u64 t.num, .string t.op, .slice A t.kids.length cap], .bool gen] W (fun e w' => e = .returned (.bool (F.ex t gen s).1) ∧ RW w' B pt mu mv nv (F.ex t gen s).2 ∧ Fr (SR mu mv) w w') from
        (G.ex W B pt mu mv nv s t _ gen (hr.fr (below_via W1 b)) hd hwf (hk.under ((below_via W1 b).mono hr.size))).mono fun e w' ⟨h1, h2, h3⟩ => ⟨h1, h2, (Fr.of_below (below_via W1 b)).tr h3⟩)
    have CX := Lib.hid (fun W (b : Below (w.alloc (.cells #[.int .i64 t.kind, .int .i64 t.at_, .string t.name, .int .u64 t.num, .string t.op, .slice A t.kids.length cap] 31)).heap.size (w.alloc (.cells #[.int .i64 t.kind, .int .i64 t.at_, .string t.name, .int .u64 t.num, .string t.op, .slice A t.kids.length cap] 31)) W) =>
      show NodeAt W w.heap.size 0 #[.int .i64 t.kind, .int .i64 t.at_, .string t.name, .int .u64 t.num, .string t.op, .slice A t.kids.length cap] from fun j u hj => by rw [Nat.zero_add]; exact (((Blk.new w 31 #[.int .i64 t.kind, .int .i64 t.at_, .string t.name, .int .u64 t.num, .string t.op, .slice A t.kids.length cap]).below b (by rw [size_alloc]; omega)).cell j).trans hj)
    have MC := Lib.hid MC
    simp only [Bool.false_eq_true, if_false]
    generalize F.ex t gen s = r at *
    clear hr hd hwf hk W1 G hm
    go_enter Tryd.func35, Tryd.ntmps35
    go_wp2_with (first | (go_at_call 54; (with_reducible refine MC.out.mono ?_); rintro e w5 ⟨rfl, hb⟩; have EW := Lib.hid (EC.out w5 hb); have hX := CX.out w5 hb; obtain ⟨x0, x1, x2, x3, x4, x5⟩ : w5.cell? ⟨w.heap.size, 0, none⟩ = some (.int .i64 t.kind) ∧ w5.cell? ⟨w.heap.size, 1, none⟩ = some (.int .i64 t.at_) ∧ w5.cell? ⟨w.heap.size, 2, none⟩ = some (.string t.name) ∧ w5.cell? ⟨w.heap.size, 3, none⟩ = some (.int .u64 t.num) ∧ w5.cell? ⟨w.heap.size, 4, none⟩ = some (.string t.op) ∧ w5.cell? ⟨w.heap.size, 5, none⟩ = some (.slice A t.kids.length cap) := ⟨hX 0 _ rfl, hX 1 _ rfl, hX 2 _ rfl, hX 3 _ rfl, hX 4 _ rfl, hX 5 _ rfl⟩; clear hX hb) | (go_at_call 36; (with_reducible refine EW.out.mono ?_); rintro e w6 ⟨rfl, g1, g2⟩; have G1 := Lib.hid g1; have G2 := Lib.hid g2; clear g1 g2))
    go_ret
    exact ⟨rfl, G1.out, G2.out⟩
  · rw [hm] at MC
    have HRW := Lib.hid (fun W (b : Below (w.alloc (.cells #[.int .i64 t.kind, .int .i64 t.at_, .string t.name, .int .u64 t.num, .string t.op, .slice A t.kids.length cap] 31)).heap.size (w.alloc (.cells #[.int .i64 t.kind, .int .i64 t.at_, .string t.name, .int .u64 t.num, .string t.op, .slice A t.kids.length cap] 31)) W) => And.intro (hr.fr (below_via W1 b)) (Fr.of_below (S := SR mu mv) (below_via W1 b)))
    have MC := Lib.hid MC
    simp only [if_true]
    clear hr hd hwf hk W1 G hm
    go_enter Tryd.func35, Tryd.ntmps35
    go_wp2_with (first | (go_at_call 54; (with_reducible refine MC.out.mono ?_); rintro e w5 ⟨rfl, hb⟩; have EW := Lib.hid (HRW.out w5 hb)))
    go_ret
    exact ⟨rfl, EW.out.1, EW.out.2⟩
end Go.Proofs.YtlenhcmgcgccmaaDoor
