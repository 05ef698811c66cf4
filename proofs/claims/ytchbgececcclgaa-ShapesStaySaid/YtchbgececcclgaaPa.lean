/- Shapes: the plain tree of shapes, and its laws: no program here. -/
import Derived.Test.YtchbgececcclgaaCw
namespace Go.Proofs.Ytchbgececcclgaa
open Go.RowKit Go
set_option linter.unusedVariables false
set_option linter.unusedSimpArgs false
/-- a property; a step; a shape. -/
structure Pr where
  k : ByteArray
  f : Int
deriving DecidableEq
structure St where
  c : Bool
  k : ByteArray
  f : Int
deriving DecidableEq
structure Sh where
  p : Int
  l : List Pr
  s : List St
deriving DecidableEq
/-- the first shape that came about so. -/
def fnd (s : List St) (p : Int) : Nat → List Sh → Option Nat
  | _, [] => none
  | n, y :: L => if y.s = s ∧ y.p = p then some n else fnd s p (n + 1) L
/-- the place of a key. -/
def plc (k : ByteArray) : Nat → List Pr → Int
  | _, [] => -1
  | n, p :: l => if p.k = k then (n : Int) else plc k (n + 1) l
def getI (L : List Sh) (n : Int) : Option Sh := if 0 ≤ n then L[n.toNat]? else none
abbrev Res := List Sh × Int × Bool
def layP (most : Int) (L : List Sh) (s : Sh) : Res :=
  match fnd s.s s.p 0 L with
  | some i => (L, (i : Int), true)
  | none => if most ≤ (L.length : Int) then (L, 0, false) else (L ++ [s], (L.length : Int), true)
def rootP (most : Int) (L : List Sh) (p : Int) : Res := layP most L ⟨p, [], []⟩
def addS (x : Sh) (k : ByteArray) (f : Int) : Sh := ⟨x.p, x.l ++ [⟨k, f⟩], x.s ++ [⟨false, k, f⟩]⟩
def chgS (x : Sh) (at_ : Nat) (k : ByteArray) (f : Int) : Sh := ⟨x.p, x.l.set at_ ⟨k, f⟩, x.s ++ [⟨true, k, f⟩]⟩
def addP (most : Int) (L : List Sh) (n : Int) (k : ByteArray) (f : Int) : Res :=
  match getI L n with
  | none => (L, 0, false)
  | some x => if 0 ≤ plc k 0 x.l then (L, 0, false) else layP most L (addS x k f)
def flagAt (l : List Pr) (i : Int) : Int := (l[i.toNat]?.map (·.f)).getD 0
def chgP (most : Int) (L : List Sh) (n : Int) (k : ByteArray) (f : Int) : Res :=
  match getI L n with
  | none => (L, 0, false)
  | some x =>
    if plc k 0 x.l < 0 then (L, 0, false) else
    if flagAt x.l (plc k 0 x.l) = f then (L, n, true) else layP most L (chgS x (plc k 0 x.l).toNat k f)
def movL (most : Int) (r : Res) : List Pr → Res
  | [] => r
  | p :: t => if r.2.2 = true then movL most (addP most r.1 r.2.1 p.k p.f) t else (r.1, 0, false)
def movP (most : Int) (L : List Sh) (n : Int) (p : Int) : Res :=
  match getI L n with
  | none => (L, 0, false)
  | some x => movL most (rootP most L p) x.l
structure Opp where
  kind : Int
  shape : Int
  flags : Int
  proto : Int
  key : ByteArray
def stepP (most : Int) (L : List Sh) (o : Opp) : Res :=
  if o.kind = 0 then rootP most L o.proto else
  if o.kind = 1 then addP most L o.shape o.key o.flags else
  if o.kind = 2 then chgP most L o.shape o.key o.flags else
  if o.kind = 3 then movP most L o.shape o.proto else (L, 0, true)
/-- the tree behind many calls. -/
def runP (most : Int) : List Sh → List Opp → List Sh
  | L, [] => L
  | L, o :: r => runP most (stepP most L o).1 r
theorem runP_append (most : Int) (L : List Sh) (a b : List Opp) : runP most L (a ++ b) = runP most (runP most L a) b := by
  induction a generalizing L with
  | nil => rfl
  | cons o a ih => exact ih _

def okF (f : Int) : Prop := (Lit.int .i64 f).wf = true
def okU (f : Int) : Prop := (Lit.int .u64 f).wf = true
def okK (k : ByteArray) : Prop := k.size ≤ maxLen
structure Opp.Ok (o : Opp) : Prop where
  shape : okF o.shape
  flags : okF o.flags
  proto : okU o.proto
  key : okK o.key
structure ShOk (x : Sh) : Prop where
  p : okU x.p
  l : ∀ q ∈ x.l, okK q.k ∧ okF q.f
  d : (x.l.map (·.k)).Nodup
  le : x.l.length ≤ x.s.length
structure WF (L : List Sh) : Prop where
  apart : ∀ (i j : Nat) (x y : Sh), L[i]? = some x → L[j]? = some y → x.s = y.s → x.p = y.p → i = j
  depth : ∀ (i : Nat) (x : Sh), L[i]? = some x → x.l.length ≤ i ∧ x.s.length ≤ i
  ok : ∀ x ∈ L, ShOk x
  par : ∀ x ∈ L, ∀ s t, x.s = s ++ [t] → ∃ y ∈ L, y.s = s ∧ y.p = x.p
theorem WF.nil : WF [] := ⟨by simp, by simp, by simp, by simp⟩
def Par (L : List Sh) (x : Sh) : Prop := ∀ s t, x.s = s ++ [t] → ∃ y ∈ L, y.s = s ∧ y.p = x.p

theorem fnd_append (s : List St) (p : Int) (n : Nat) (L M : List Sh) : fnd s p n (L ++ M) = (fnd s p n L).or (fnd s p (n + L.length) M) := by
  induction L generalizing n with
  | nil => simp [fnd]
  | cons y L ih =>
    simp only [List.cons_append, fnd, List.length_cons]
    by_cases h : y.s = s ∧ y.p = p
    · simp [h]
    · rw [if_neg h, if_neg h, ih, show n + 1 + L.length = n + (L.length + 1) by omega]
theorem fnd_some {s : List St} {p : Int} {n i : Nat} {L : List Sh} (h : fnd s p n L = some i) : ∃ j y, i = n + j ∧ L[j]? = some y ∧ y.s = s ∧ y.p = p := by
  induction L generalizing n with
  | nil => simp [fnd] at h
  | cons y L ih =>
    simp only [fnd] at h
    split at h
    · rename_i hy
      injection h with h
      exact ⟨0, y, by omega, rfl, hy.1, hy.2⟩
    · obtain ⟨j, z, e, hz, h1, h2⟩ := ih h
      exact ⟨j + 1, z, by omega, by simpa using hz, h1, h2⟩
theorem fnd_none {s : List St} {p : Int} {n : Nat} {L : List Sh} (h : fnd s p n L = none) : ∀ y ∈ L, ¬ (y.s = s ∧ y.p = p) := by
  induction L generalizing n with
  | nil => simp
  | cons y L ih =>
    simp only [fnd] at h
    split at h
    · cases h
    · rename_i hy
      intro z hz
      rcases List.mem_cons.1 hz with rfl | hz
      · exact hy
      · exact ih h z hz
theorem fnd_of_mem {s : List St} {p : Int} {n : Nat} {L : List Sh} {i : Nat} {x : Sh} (hx : L[i]? = some x) (h1 : x.s = s) (h2 : x.p = p) : ∃ j, fnd s p n L = some j := by
  cases e : fnd s p n L with
  | some j => exact ⟨j, rfl⟩
  | none => exact absurd ⟨h1, h2⟩ (fnd_none e x (List.mem_of_getElem? hx))
theorem WF.fnd_at {L : List Sh} (h : WF L) {s : List St} {p : Int} {i : Nat} {x : Sh} (hx : L[i]? = some x) (h1 : x.s = s) (h2 : x.p = p) : fnd s p 0 L = some i := by
  obtain ⟨j, hj⟩ := fnd_of_mem (n := 0) hx h1 h2
  obtain ⟨j', y, e, hy, k1, k2⟩ := fnd_some hj
  rw [hj]
  have := h.apart j' i y x hy hx (k1.trans h1.symm) (k2.trans h2.symm)
  congr 1
  omega

theorem plc_lo (k : ByteArray) (n : Nat) (l : List Pr) : plc k n l = -1 ∨ (n ≤ plc k n l ∧ plc k n l < n + l.length) := by
  induction l generalizing n with
  | nil => exact .inl rfl
  | cons q l ih =>
    simp only [plc, List.length_cons]
    split
    · right; omega
    · rcases ih (n + 1) with h | h
      · exact .inl h
      · right; omega
theorem plc_at {k : ByteArray} {n : Nat} {l : List Pr} {i : Int} (h : plc k n l = i) (hi : 0 ≤ i) : ∃ j q, i = n + (j : Nat) ∧ l[j]? = some q ∧ q.k = k := by
  induction l generalizing n with
  | nil => simp [plc] at h; omega
  | cons q l ih =>
    simp only [plc] at h
    split at h
    · rename_i hq; exact ⟨0, q, by omega, rfl, hq⟩
    · obtain ⟨j, z, e, hz, hk⟩ := ih h
      exact ⟨j + 1, z, by omega, by simpa using hz, hk⟩
theorem plc_none {k : ByteArray} {n : Nat} {l : List Pr} (h : plc k n l < 0) : ∀ q ∈ l, q.k ≠ k := by
  induction l generalizing n with
  | nil => simp
  | cons q l ih =>
    simp only [plc] at h
    split at h
    · omega
    · rename_i hq
      intro z hz
      rcases List.mem_cons.1 hz with rfl | hz
      · exact hq
      · exact ih h z hz
theorem plc_own {l : List Pr} {n : Nat} (hd : (l.map (·.k)).Nodup) {i : Nat} {q : Pr} (hq : l[i]? = some q) : plc q.k n l = n + (i : Int) := by
  induction l generalizing n i with
  | nil => simp at hq
  | cons y l ih =>
    simp only [List.map_cons, List.nodup_cons] at hd
    simp only [plc]
    cases i with
    | zero => simp at hq; subst hq; simp
    | succ i =>
      have hq' : l[i]? = some q := by simpa using hq
      rw [if_neg (fun e => hd.1 (List.mem_map.2 ⟨q, List.mem_of_getElem? hq', e.symm⟩)), ih hd.2 hq']
      omega

theorem getI_some {L : List Sh} {n : Int} {x : Sh} (h : getI L n = some x) : 0 ≤ n ∧ L[n.toNat]? = some x ∧ n < L.length := by
  unfold getI at h
  split at h
  · have := (List.getElem?_eq_some_iff.1 h).1
    exact ⟨‹_›, h, by omega⟩
  · cases h
theorem getI_none {L : List Sh} {n : Int} (h : getI L n = none) : n < 0 ∨ (L.length : Int) ≤ n := by
  unfold getI at h
  split at h
  · rw [List.getElem?_eq_none_iff] at h; right; omega
  · left; omega
theorem getI_nat {L : List Sh} {i : Nat} {x : Sh} (h : L[i]? = some x) : getI L (i : Int) = some x := by
  unfold getI; rw [if_pos (by omega)]; simpa using h

/-- what a laying gives. -/
structure Laid (most : Int) (L : List Sh) (s : Sh) (r : Res) : Prop where
  L' : r.1 = L ∨ (r.1 = L ++ [s] ∧ (L.length : Int) < most ∧ r.2.2 = true)
  yes : r.2.2 = true → ∃ x, getI r.1 r.2.1 = some x ∧ x.s = s.s ∧ x.p = s.p
  no : r.2.2 = false → r.2.1 = 0 ∧ r.1 = L
theorem layP_laid (most : Int) (L : List Sh) (s : Sh) : Laid most L s (layP most L s) := by
  unfold layP
  cases e : fnd s.s s.p 0 L with
  | some i =>
    obtain ⟨j, y, rfl, hy, h1, h2⟩ := fnd_some e
    exact ⟨.inl rfl, fun _ => ⟨y, by simpa using getI_nat hy, h1, h2⟩, fun h => by cases h⟩
  | none =>
    by_cases hm : most ≤ (L.length : Int)
    · simp only [if_pos hm]
      exact ⟨.inl rfl, fun h => (by cases h), fun _ => ⟨rfl, rfl⟩⟩
    · simp only [if_neg hm]
      exact ⟨.inr ⟨rfl, by omega, rfl⟩, fun _ => ⟨s, getI_nat (by simp), rfl, rfl⟩, fun h => by cases h⟩
theorem layP_wf (most : Int) {L : List Sh} (h : WF L) {s : Sh} (hs : ShOk s) (hd : s.l.length ≤ L.length ∧ s.s.length ≤ L.length ∧ Par L s) : WF (layP most L s).1 := by
  unfold layP
  cases e : fnd s.s s.p 0 L with
  | some i => exact h
  | none =>
    by_cases hm : most ≤ (L.length : Int)
    · simp only [if_pos hm]; exact h
    · simp only [if_neg hm]
      have hn := fnd_none e
      refine ⟨fun i j x y hx hy h1 h2 => ?_, fun i x hx => ?_, fun x hx => ?_, fun x hx a b hab => ?_⟩
      · rw [List.getElem?_append] at hx hy
        split at hx <;> split at hy
        · exact h.apart i j x y hx hy h1 h2
        · rename_i a b
          have : y = s := by
            cases hj : j - L.length with
            | zero => rw [hj] at hy; simpa using hy.symm
            | succ m => rw [hj] at hy; simp at hy
          subst this
          exact absurd ⟨h1, h2⟩ (hn x (List.mem_of_getElem? hx))
        · rename_i a b
          have : x = s := by
            cases hj : i - L.length with
            | zero => rw [hj] at hx; simpa using hx.symm
            | succ m => rw [hj] at hx; simp at hx
          subst this
          exact absurd ⟨h1.symm, h2.symm⟩ (hn y (List.mem_of_getElem? hy))
        · rename_i a b
          have hi := (List.getElem?_eq_some_iff.1 hx).1
          have hj := (List.getElem?_eq_some_iff.1 hy).1
          simp at hi hj
          omega
      · rw [List.getElem?_append] at hx
        split at hx
        · exact h.depth i x hx
        · have hi := (List.getElem?_eq_some_iff.1 hx).1
          simp at hi
          have e0 : i - L.length = 0 := by omega
          rw [e0] at hx
          simp at hx
          subst hx
          omega
      · rcases List.mem_append.1 hx with hx | hx
        · exact h.ok x hx
        · rw [List.mem_singleton.1 hx]; exact hs
      · rcases List.mem_append.1 hx with hx | hx
        · obtain ⟨y, hy, k⟩ := h.par x hx a b hab
          exact ⟨y, by simp [hy], k⟩
        · rw [List.mem_singleton.1 hx] at hab ⊢
          obtain ⟨y, hy, k⟩ := hd.2.2 a b hab
          exact ⟨y, by simp [hy], k⟩
/-- how far a call goes: the old shapes stay, the tree does not pass its bound, keys get one more at most. -/
structure Grown (most : Int) (L : List Sh) (k : Nat) (r : Res) : Prop where
  pre : L <+: r.1
  top : (r.1.length : Int) ≤ max most L.length
  many : r.1.length ≤ L.length + k
  no : r.2.2 = false → r.2.1 = 0
  wf : WF r.1
  keys : ∀ K, (∀ x ∈ L, x.l.length ≤ K) → ∀ x ∈ r.1, x.l.length ≤ K + 1
theorem layP_grown (most : Int) {L : List Sh} (h : WF L) {s : Sh} (hs : ShOk s) (hd : s.l.length ≤ L.length ∧ s.s.length ≤ L.length ∧ Par L s) (hk : ∀ K, (∀ x ∈ L, x.l.length ≤ K) → s.l.length ≤ K + 1) : Grown most L 1 (layP most L s) := by
  have hl := layP_laid most L s
  refine ⟨?_, ?_, ?_, fun e => (hl.no e).1, layP_wf most h hs hd, ?_⟩
  · rcases hl.L' with e | ⟨e, _⟩ <;> rw [e]
    · exact List.prefix_refl L
    · exact List.prefix_append L _
  · rcases hl.L' with e | ⟨e, e2, _⟩ <;> rw [e]
    · omega
    · simp; omega
  · rcases hl.L' with e | ⟨e, _⟩ <;> rw [e] <;> simp
  · intro K hK x hx
    rcases hl.L' with e | ⟨e, _⟩ <;> rw [e] at hx
    · have := hK x hx; omega
    · rcases List.mem_append.1 hx with hx | hx
      · have := hK x hx; omega
      · rw [List.mem_singleton.1 hx]; exact hk K hK
theorem Grown.same (most : Int) {L : List Sh} (h : WF L) (n : Int) (b : Bool) (hn : b = false → n = 0) (k : Nat) : Grown most L k (L, n, b) :=
  ⟨List.prefix_refl L, by show (L.length : Int) ≤ _; omega, by show L.length ≤ _; omega, hn, h, fun K hK x hx => by have := hK x hx; omega⟩
theorem rootP_grown (most : Int) {L : List Sh} (h : WF L) {p : Int} (hp : okU p) : Grown most L 1 (rootP most L p) :=
  layP_grown most h ⟨hp, by simp, by simp, by simp⟩ ⟨by simp, by simp, fun a b e => absurd e (by simp)⟩ (fun K _ => by simp)
theorem par_of {L : List Sh} (h : WF L) {n : Int} {x y : Sh} (hx : getI L n = some x) {t : St} (hs : y.s = x.s ++ [t]) (hp : y.p = x.p) : Par L y := by
  intro a b e
  rw [hs] at e
  obtain ⟨e1, e2⟩ := List.append_inj' e rfl
  exact ⟨x, List.mem_of_getElem? (getI_some hx).2.1, e1, hp.symm⟩
theorem addS_ok {L : List Sh} (h : WF L) {n : Int} {x : Sh} (hx : getI L n = some x) {k : ByteArray} {f : Int} (hk : okK k) (hf : okF f) (hn : plc k 0 x.l < 0) :
    ShOk (addS x k f) ∧ (addS x k f).l.length ≤ L.length ∧ (addS x k f).s.length ≤ L.length ∧ Par L (addS x k f) := by
  obtain ⟨h0, hx', hlt⟩ := getI_some hx
  obtain ⟨d1, d2⟩ := h.depth _ _ hx'
  have o := h.ok x (List.mem_of_getElem? hx')
  have d3 := o.le
  refine ⟨⟨o.p, fun q hq => ?_, ?_, by simp [addS]; omega⟩, by simp [addS]; omega, by simp [addS]; omega, par_of h hx rfl rfl⟩
  · rcases List.mem_append.1 hq with hq | hq
    · exact o.l q hq
    · rw [List.mem_singleton.1 hq]; exact ⟨hk, hf⟩
  · simp only [addS, List.map_append, List.map_cons, List.map_nil]
    rw [List.nodup_append]
    refine ⟨o.d, by simp, fun a ha b hb => ?_⟩
    obtain ⟨q, hq, rfl⟩ := List.mem_map.1 ha
    rw [List.mem_singleton.1 hb]
    exact plc_none hn q hq
theorem addP_grown (most : Int) {L : List Sh} (h : WF L) {n : Int} {k : ByteArray} {f : Int} (hk : okK k) (hf : okF f) : Grown most L 1 (addP most L n k f) := by
  unfold addP
  cases e : getI L n with
  | none => exact Grown.same most h 0 false (fun _ => rfl) 1
  | some x =>
    by_cases hp : 0 ≤ plc k 0 x.l
    · simp only [if_pos hp]; exact Grown.same most h 0 false (fun _ => rfl) 1
    · simp only [if_neg hp]
      obtain ⟨a, b⟩ := addS_ok h e hk hf (by omega)
      refine layP_grown most h a b (fun K hK => ?_)
      have := hK x (List.mem_of_getElem? (getI_some e).2.1)
      simp [addS]; omega
theorem chgS_ok {L : List Sh} (h : WF L) {n : Int} {x : Sh} (hx : getI L n = some x) {k : ByteArray} {f : Int} (hk : okK k) (hf : okF f) (hn : 0 ≤ plc k 0 x.l) :
    ShOk (chgS x (plc k 0 x.l).toNat k f) ∧ (chgS x (plc k 0 x.l).toNat k f).l.length ≤ L.length ∧ (chgS x (plc k 0 x.l).toNat k f).s.length ≤ L.length ∧ Par L (chgS x (plc k 0 x.l).toNat k f) := by
  obtain ⟨h0, hx', hlt⟩ := getI_some hx
  obtain ⟨d1, d2⟩ := h.depth _ _ hx'
  have o := h.ok x (List.mem_of_getElem? hx')
  obtain ⟨j, q, e, hq, hqk⟩ := plc_at rfl hn
  have ej : (plc k 0 x.l).toNat = j := by omega
  rw [ej]
  have d3 := o.le
  refine ⟨⟨o.p, fun z hz => ?_, ?_, by simp [chgS]; omega⟩, by simp [chgS]; omega, by simp [chgS]; omega, par_of h hx rfl rfl⟩
  · rcases List.mem_or_eq_of_mem_set hz with hz | rfl
    · exact o.l z hz
    · exact ⟨hk, hf⟩
  · have : (x.l.set j ⟨k, f⟩).map (·.k) = x.l.map (·.k) := by
      rw [List.map_set]
      apply List.ext_getElem?
      intro m
      rw [List.getElem?_set]
      split
      · rename_i em
        subst em
        have hl : j < (x.l.map (·.k)).length := by simpa using (List.getElem?_eq_some_iff.1 hq).1
        rw [if_pos hl]
        simp [hq, hqk]
      · rfl
    show ((x.l.set j ⟨k, f⟩).map (·.k)).Nodup
    rw [this]; exact o.d
theorem chgP_grown (most : Int) {L : List Sh} (h : WF L) {n : Int} {k : ByteArray} {f : Int} (hk : okK k) (hf : okF f) : Grown most L 1 (chgP most L n k f) := by
  unfold chgP
  cases e : getI L n with
  | none => exact Grown.same most h 0 false (fun _ => rfl) 1
  | some x =>
    by_cases hp : plc k 0 x.l < 0
    · simp only [if_pos hp]; exact Grown.same most h 0 false (fun _ => rfl) 1
    · simp only [if_neg hp]
      by_cases hq : flagAt x.l (plc k 0 x.l) = f
      · simp only [if_pos hq]; exact Grown.same most h n true (fun h => by cases h) 1
      · simp only [if_neg hq]
        obtain ⟨a, b⟩ := chgS_ok h e hk hf (by omega)
        refine layP_grown most h a b (fun K hK => ?_)
        have := hK x (List.mem_of_getElem? (getI_some e).2.1)
        simp [chgS]; omega
theorem Grown.trans_ {most : Int} {L : List Sh} {a b : Nat} {r r' : Res} (h : Grown most L a r) (k : Grown most r.1 b r') :
    L <+: r'.1 ∧ (r'.1.length : Int) ≤ max most L.length ∧ r'.1.length ≤ L.length + (a + b) :=
  ⟨h.pre.trans k.pre, by have := h.top; have := k.top; omega, by have := h.many; have := k.many; omega⟩
/-- a shape that has so many keys, all of one run. -/
theorem addP_yes {most : Int} {L : List Sh} {n : Int} {k : ByteArray} {f : Int} (h : WF L) (hk : okK k) (hf : okF f) (hy : (addP most L n k f).2.2 = true) : ∃ x, getI L n = some x ∧ plc k 0 x.l < 0 ∧ ∃ y, getI (addP most L n k f).1 (addP most L n k f).2.1 = some y ∧ y.s = (addS x k f).s ∧ y.p = x.p := by
  unfold addP at hy ⊢
  cases e : getI L n with
  | none => rw [e] at hy; cases hy
  | some x =>
    rw [e] at hy
    by_cases hp : 0 ≤ plc k 0 x.l
    · simp only [if_pos hp] at hy; cases hy
    · simp only [if_neg hp] at hy ⊢
      obtain ⟨y, h1, h2, h3⟩ := (layP_laid most L (addS x k f)).yes hy
      exact ⟨x, rfl, by omega, y, h1, h2, h3⟩
/-- what a call makes of the tree. -/
structure Stepped (most : Int) (L : List Sh) (m K : Nat) (r : Res) : Prop where
  pre : L <+: r.1
  top : (r.1.length : Int) ≤ max most L.length
  many : r.1.length ≤ L.length + m
  no : r.2.2 = false → r.2.1 = 0
  wf : WF r.1
  keys : ∀ x ∈ r.1, x.l.length ≤ K
theorem Grown.step {most : Int} {L : List Sh} {k K : Nat} {r : Res} (h : Grown most L k r) (hK : ∀ x ∈ L, x.l.length ≤ K) : Stepped most L k (K + 1) r := ⟨h.pre, h.top, h.many, h.no, h.wf, h.keys K hK⟩
theorem Stepped.mono {most : Int} {L : List Sh} {m K m' K' : Nat} {r : Res} (h : Stepped most L m K r) (h1 : m ≤ m') (h2 : K ≤ K') : Stepped most L m' K' r :=
  ⟨h.pre, h.top, by have := h.many; omega, h.no, h.wf, fun x hx => by have := h.keys x hx; omega⟩
theorem addP_keys {most : Int} {L : List Sh} (h : WF L) {n : Int} {k : ByteArray} {f : Int} {y : Sh} (hy : getI L n = some y) {K : Nat} (hK : ∀ x ∈ L, x.l.length ≤ K) (hs : y.s.length + 1 ≤ K) : ∀ x ∈ (addP most L n k f).1, x.l.length ≤ K := by
  unfold addP
  rw [hy]
  simp only
  have hle := (h.ok y (List.mem_of_getElem? (getI_some hy).2.1)).le
  split
  · exact hK
  · intro x hx
    rcases (layP_laid most L (addS y k f)).L' with e | ⟨e, _⟩ <;> rw [e] at hx
    · exact hK x hx
    · rcases List.mem_append.1 hx with hx | hx
      · exact hK x hx
      · rw [List.mem_singleton.1 hx]; simp [addS]; omega
theorem movL_stepped (most : Int) (l : List Pr) : ∀ (r : Res) (j K : Nat), (∀ q ∈ l, okK q.k ∧ okF q.f) → WF r.1 → (r.2.2 = false → r.2.1 = 0) → (r.2.2 = true → ∃ y, getI r.1 r.2.1 = some y ∧ y.s.length = j) → (∀ x ∈ r.1, x.l.length ≤ K) → j + l.length ≤ K →
    Stepped most r.1 l.length K (movL most r l) := by
  induction l with
  | nil => intro r j K _ h hn _ hK _; exact ⟨List.prefix_refl _, by show (r.1.length : Int) ≤ _; omega, by show r.1.length ≤ _; omega, hn, h, hK⟩
  | cons q l ih =>
    intro r j K hq h hn hy hK hj
    simp only [List.length_cons] at hj ⊢
    unfold movL
    by_cases hr : r.2.2 = true
    · rw [if_pos hr]
      obtain ⟨y, hy1, hy2⟩ := hy hr
      obtain ⟨k1, k2⟩ := hq q (by simp)
      have g := addP_grown most h (n := r.2.1) k1 k2
      have i := ih (addP most r.1 r.2.1 q.k q.f) (j + 1) K (fun z hz => hq z (by simp [hz])) g.wf g.no (fun ht => by
        obtain ⟨x, e1, _, z, e2, e3, _⟩ := addP_yes h k1 k2 ht
        rw [hy1] at e1
        cases e1
        exact ⟨z, e2, by rw [e3]; simp [addS]; omega⟩) (addP_keys h hy1 hK (by omega)) (by omega)
      exact ⟨g.pre.trans i.pre, by have := g.top; have := i.top; omega, by have := g.many; have := i.many; omega, i.no, i.wf, i.keys⟩
    · rw [if_neg hr]
      exact ⟨List.prefix_refl _, by show (r.1.length : Int) ≤ _; omega, by show r.1.length ≤ _; omega, fun _ => rfl, h, hK⟩
theorem rootP_keys {most : Int} {L : List Sh} {p : Int} {K : Nat} (hK : ∀ x ∈ L, x.l.length ≤ K) : ∀ x ∈ (rootP most L p).1, x.l.length ≤ K := by
  intro x hx
  unfold rootP at hx
  rcases (layP_laid most L ⟨p, [], []⟩).L' with e | ⟨e, _⟩ <;> rw [e] at hx
  · exact hK x hx
  · rcases List.mem_append.1 hx with hx | hx
    · exact hK x hx
    · rw [List.mem_singleton.1 hx]; simp
theorem movP_stepped (most : Int) {L : List Sh} (h : WF L) {n p : Int} (hp : okU p) {K : Nat} (hK : ∀ x ∈ L, x.l.length ≤ K) : Stepped most L (K + 1) K (movP most L n p) := by
  unfold movP
  cases e : getI L n with
  | none => exact ⟨List.prefix_refl _, by show (L.length : Int) ≤ _; omega, by show L.length ≤ _; omega, fun _ => rfl, h, hK⟩
  | some x =>
    have hx := List.mem_of_getElem? (getI_some e).2.1
    have g := rootP_grown most h hp
    show Stepped most L (K + 1) K (movL most (rootP most L p) x.l)
    have i := movL_stepped most x.l (rootP most L p) 0 K (h.ok x hx).l g.wf g.no (fun ht => by
      obtain ⟨y, e1, e2, _⟩ := (layP_laid most L ⟨p, [], []⟩).yes ht
      exact ⟨y, e1, by rw [e2]; rfl⟩) (rootP_keys hK) (by have := hK x hx; omega)
    have := hK x hx
    exact ⟨g.pre.trans i.pre, by have := g.top; have := i.top; omega, by have := g.many; have := i.many; omega, i.no, i.wf, i.keys⟩
theorem stepP_stepped (most : Int) {L : List Sh} (h : WF L) {o : Opp} (ho : o.Ok) {K : Nat} (hK : ∀ x ∈ L, x.l.length ≤ K) : Stepped most L (K + 1) (K + 1) (stepP most L o) ∨ ((stepP most L o) = (L, 0, true)) := by
  unfold stepP
  split
  · exact .inl (((rootP_grown most h ho.proto).step hK).mono (by omega) (by omega))
  split
  · exact .inl (((addP_grown most h ho.key ho.flags).step hK).mono (by omega) (by omega))
  split
  · exact .inl (((chgP_grown most h ho.key ho.flags).step hK).mono (by omega) (by omega))
  split
  · exact .inl ((movP_stepped most h ho.proto hK).mono (by omega) (by omega))
  · exact .inr rfl
/-- the tree behind so many calls. -/
def bigN : Nat := 1048577
structure Far (most : Int) (m : Nat) (L : List Sh) : Prop where
  wf : WF L
  keys : ∀ x ∈ L, x.l.length ≤ m
  many : L.length ≤ m * bigN
  top : (L.length : Int) ≤ max most 0
theorem Far.zero (most : Int) : Far most 0 [] := ⟨WF.nil, (fun x hx => by cases hx), Nat.zero_le _, by show (0 : Int) ≤ _; omega⟩
theorem Far.step {most : Int} {m : Nat} {L : List Sh} (h : Far most m L) {o : Opp} (ho : o.Ok) (hm : m ≤ 1048576) : Far most (m + 1) (stepP most L o).1 ∧ L <+: (stepP most L o).1 := by
  have h1 := h.many
  have h2 := h.top
  have h3 : m + 1 ≤ bigN := by unfold bigN; omega
  have h4 : (m + 1) * bigN = m * bigN + bigN := Nat.succ_mul m bigN
  generalize m * bigN = z at h1 h4
  rcases stepP_stepped most h.wf ho h.keys with g | g
  · have g1 := g.many
    have g2 := g.top
    exact ⟨⟨g.wf, g.keys, by rw [h4]; omega, by omega⟩, g.pre⟩
  · rw [g]
    exact ⟨⟨h.wf, (fun x hx => by have := h.keys x hx; omega), by rw [h4]; show L.length ≤ _; omega, h2⟩, List.prefix_refl _⟩
/-! what the maps hold: who came out of whom -/
def entV (f : Sh → Option Value) : Nat → List Sh → List (Value × Value)
  | _, [] => []
  | n, x :: L => match f x with
    | some v => (v, .int .i64 n) :: entV f (n + 1) L
    | none => entV f (n + 1) L
def St.v (t : St) : Value := .agg #[.bool t.c, .string t.k, .int .i64 t.f]
theorem St.v_inj {a b : St} (h : a.v = b.v) : a = b := by
  obtain ⟨a1, a2, a3⟩ := a
  obtain ⟨b1, b2, b3⟩ := b
  simp [St.v] at h
  simp [h]
def kidF (p : Int) (s : List St) (x : Sh) : Option Value := if x.p = p ∧ x.s.length = s.length + 1 ∧ x.s.take s.length = s then (x.s[s.length]?).map St.v else none
def rootF (x : Sh) : Option Value := if x.s = [] then some (.int .u64 x.p) else none
theorem kidF_some {p : Int} {s : List St} {x : Sh} {v : Value} : kidF p s x = some v ↔ ∃ t : St, x.p = p ∧ x.s = s ++ [t] ∧ v = t.v := by
  unfold kidF
  constructor
  · intro h
    split at h
    · rename_i hc
      obtain ⟨h1, h2, h3⟩ := hc
      have hl : s.length < x.s.length := by omega
      rw [List.getElem?_eq_getElem hl] at h
      simp at h
      refine ⟨x.s[s.length], h1, ?_, h.symm⟩
      conv => lhs; rw [← List.take_append_drop s.length x.s]
      rw [h3, List.drop_eq_getElem_cons hl, List.drop_of_length_le (by omega)]
    · cases h
  · rintro ⟨t, h1, h2, rfl⟩
    rw [if_pos ⟨h1, by rw [h2]; simp, by rw [h2]; simp⟩, h2]
    simp
theorem kidF_none {p : Int} {s : List St} {x : Sh} (h : ∀ t : St, x.p = p → x.s = s ++ [t] → False) : kidF p s x = none := by
  cases e : kidF p s x with
  | none => rfl
  | some v => obtain ⟨t, h1, h2, _⟩ := kidF_some.1 e; exact (h t h1 h2).elim
theorem entV_append (f : Sh → Option Value) (n : Nat) (L M : List Sh) : entV f n (L ++ M) = entV f n L ++ entV f (n + L.length) M := by
  induction L generalizing n with
  | nil => simp [entV]
  | cons x L ih =>
    simp only [List.cons_append, entV, List.length_cons]
    cases f x <;> simp [ih, show n + 1 + L.length = n + (L.length + 1) by omega]
theorem entV_mem {f : Sh → Option Value} {n : Nat} {L : List Sh} {v u : Value} (h : (v, u) ∈ entV f n L) : ∃ j x, L[j]? = some x ∧ f x = some v ∧ u = .int .i64 ((n + j : Nat) : Int) := by
  induction L generalizing n with
  | nil => simp [entV] at h
  | cons x L ih =>
    simp only [entV] at h
    cases e : f x with
    | none =>
      rw [e] at h
      obtain ⟨j, y, h1, h2, h3⟩ := ih h
      exact ⟨j + 1, y, by simpa using h1, h2, by rw [h3]; congr 2; omega⟩
    | some z =>
      rw [e] at h
      rcases List.mem_cons.1 h with h | h
      · injection h with h1 h2
        exact ⟨0, x, rfl, by rw [h1]; exact e, by rw [h2]; rfl⟩
      · obtain ⟨j, y, h1, h2, h3⟩ := ih h
        exact ⟨j + 1, y, by simpa using h1, h2, by rw [h3]; congr 2; omega⟩
theorem entV_of {f : Sh → Option Value} {n : Nat} {L : List Sh} {j : Nat} {x : Sh} {v : Value} (hx : L[j]? = some x) (hf : f x = some v) : ∃ e ∈ entV f n L, e.1 = v := by
  induction L generalizing n j with
  | nil => simp at hx
  | cons y L ih =>
    simp only [entV]
    cases j with
    | zero =>
      simp at hx; subst hx
      rw [hf]
      exact ⟨_, List.mem_cons_self, rfl⟩
    | succ j =>
      obtain ⟨e, he, h1⟩ := ih (n := n + 1) (j := j) (by simpa using hx)
      cases f y with
      | none => exact ⟨e, he, h1⟩
      | some z => exact ⟨e, List.mem_cons_of_mem _ he, h1⟩
theorem entV_nil {f : Sh → Option Value} {n : Nat} {L : List Sh} (h : ∀ x ∈ L, f x = none) : entV f n L = [] := by
  induction L generalizing n with
  | nil => rfl
  | cons x L ih =>
    simp only [entV]
    rw [h x (by simp)]
    exact ih (fun y hy => h y (by simp [hy]))
/-- who is found among the roots; among the ways from a shape. -/
theorem roots_yes {L : List Sh} (h : WF L) {p : Int} {u : Value} (hm : (Value.int .u64 p, u) ∈ entV rootF 0 L) : ∃ j : Nat, u = .int .i64 j ∧ ∀ most, rootP most L p = (L, (j : Int), true) := by
  obtain ⟨j, x, hx, hf, hu⟩ := entV_mem hm
  unfold rootF at hf
  split at hf
  · rename_i hs
    have hp : x.p = p := by simpa using hf
    refine ⟨j, by rw [hu]; simp, fun most => ?_⟩
    unfold rootP layP
    rw [h.fnd_at hx hs hp]
  · cases hf
theorem roots_no {L : List Sh} {p : Int} (hm : ∀ e ∈ entV rootF 0 L, e.1 ≠ Value.int .u64 p) : fnd [] p 0 L = none := by
  cases e : fnd [] p 0 L with
  | none => rfl
  | some j =>
    obtain ⟨i, y, _, hy, h1, h2⟩ := fnd_some e
    obtain ⟨z, hz, k⟩ := entV_of (n := 0) (f := rootF) (v := .int .u64 p) hy (by unfold rootF; rw [if_pos h1, h2])
    exact absurd k (hm z hz)
theorem kids_yes {L : List Sh} (h : WF L) {p : Int} {s : List St} {t : St} {u : Value} (hm : (t.v, u) ∈ entV (kidF p s) 0 L) : ∃ j : Nat, u = .int .i64 j ∧ ∀ most l, layP most L ⟨p, l, s ++ [t]⟩ = (L, (j : Int), true) := by
  obtain ⟨j, x, hx, hf, hu⟩ := entV_mem hm
  obtain ⟨t', h1, h2, h3⟩ := kidF_some.1 hf
  have := St.v_inj h3
  subst this
  refine ⟨j, by rw [hu]; simp, fun most l => ?_⟩
  unfold layP
  rw [h.fnd_at hx h2 h1]
theorem kids_no {L : List Sh} {p : Int} {s : List St} {t : St} (hm : ∀ e ∈ entV (kidF p s) 0 L, e.1 ≠ t.v) : fnd (s ++ [t]) p 0 L = none := by
  cases e : fnd (s ++ [t]) p 0 L with
  | none => rfl
  | some j =>
    obtain ⟨i, y, _, hy, h1, h2⟩ := fnd_some e
    obtain ⟨z, hz, k⟩ := entV_of (n := 0) (f := kidF p s) (v := t.v) hy (kidF_some.2 ⟨t, h2, h1, rfl⟩)
    exact absurd k (hm z hz)
theorem entV_nodup {f : Sh → Option Value} {n : Nat} {L : List Sh} (h : ∀ (i j : Nat) (x y : Sh) (v : Value), L[i]? = some x → L[j]? = some y → f x = some v → f y = some v → i = j) : ((entV f n L).map (·.1)).Nodup := by
  induction L generalizing n with
  | nil => simp [entV]
  | cons x L ih =>
    have ih' := ih (n := n + 1) (fun i j a b v ha hb h1 h2 => by have := h (i + 1) (j + 1) a b v (by simpa using ha) (by simpa using hb) h1 h2; omega)
    simp only [entV]
    cases e : f x with
    | none => exact ih'
    | some v =>
      simp only [List.map_cons, List.nodup_cons]
      refine ⟨fun hm => ?_, ih'⟩
      obtain ⟨⟨a, b⟩, hp, rfl⟩ := List.mem_map.1 hm
      obtain ⟨j, y, hy, hf, _⟩ := entV_mem hp
      have := h 0 (j + 1) x y a rfl (by simpa using hy) e hf
      omega
theorem kids_nodup {L : List Sh} (h : WF L) {p : Int} {s : List St} : ((entV (kidF p s) 0 L).map (·.1)).Nodup :=
  entV_nodup fun i j x y v hx hy h1 h2 => by
    obtain ⟨t, a1, a2, a3⟩ := kidF_some.1 h1
    obtain ⟨t', b1, b2, b3⟩ := kidF_some.1 h2
    have := St.v_inj (a3.symm.trans b3)
    subst this
    exact h.apart i j x y hx hy (a2.trans b2.symm) (a1.trans b1.symm)
/-- a new shape has no way yet. -/
theorem new_kids {L : List Sh} (h : WF L) {s : Sh} (hn : fnd s.s s.p 0 L = none) : entV (kidF s.p s.s) 0 (L ++ [s]) = [] := by
  refine entV_nil fun x hx => kidF_none fun t hp hs => ?_
  rcases List.mem_append.1 hx with hx | hx
  · obtain ⟨y, hy, h1, h2⟩ := h.par x hx _ _ hs
    exact fnd_none hn y hy ⟨h1, h2.trans hp⟩
  · rw [List.mem_singleton.1 hx] at hs
    have := congrArg List.length hs
    simp at this
theorem old_kids {L : List Sh} {p : Int} {u : List St} {s : Sh} (hn : ∀ t : St, s.p = p → s.s = u ++ [t] → False) : entV (kidF p u) 0 (L ++ [s]) = entV (kidF p u) 0 L := by
  rw [entV_append]
  simp only [entV]
  rw [kidF_none hn]
  simp
end Go.Proofs.Ytchbgececcclgaa
