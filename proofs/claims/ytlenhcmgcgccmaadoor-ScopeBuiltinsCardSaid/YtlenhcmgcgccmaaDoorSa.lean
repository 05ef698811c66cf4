/- Scope: the builtins' names, slices.Index, both Builtin. -/
import Derived.Test.YtlenhcmgcgccmaaDoorCw
import Derived.StillTailTactics
import Derived.Deep.RegionHeld3
import Derived.RangeFuncNested
import Derived.RangeFuncBound
import Derived.RangeFuncBox
import Derived.RangeFuncCalls
import Derived.RangeFuncLeaves
import Derived.Shelf.Abstract
import Derived.Shelf.RegionOpen
import Derived.OwnWalkIn
import Derived.TacticsInMore
import Derived.LoopNIn
import Derived.LoopIn
import Derived.Maps.Own
import Derived.DeepKeys4
namespace Go.Proofs.YtlenhcmgcgccmaaDoor
open Go.RowKit Go
set_option linter.unusedVariables false
set_option linter.unusedSimpArgs false
theorem size_alloc (w : World) (o : Obj) : (w.alloc o).heap.size = w.heap.size + 1 := by simp only [World.alloc]; rw [Array.size_push]
theorem str_eq (a b : ByteArray) : (a.toList == b.toList) = decide (a = b) := by
  rw [Bool.eq_iff_iff, beq_iff_eq, decide_eq_true_eq]
  refine ⟨fun h => ?_, fun h => by rw [h]⟩
  rw [ByteArray.toList_eq, ByteArray.toList_eq] at h
  exact WideShapes.bytes_inj h
theorem drop_at' {α : Type} {L : List α} {k : Nat} {e : α} (hx : L[k]? = some e) : L.drop k = e :: L.drop (k + 1) := by
  obtain ⟨h1, h2⟩ := List.getElem?_eq_some_iff.1 hx
  rw [← h2]; exact List.drop_eq_getElem_cons h1
def names : List ByteArray := [⟨#[79, 98, 106, 101, 99, 116]⟩, ⟨#[70, 117, 110, 99, 116, 105, 111, 110]⟩, ⟨#[65, 114, 114, 97, 121]⟩, ⟨#[83, 116, 114, 105, 110, 103]⟩, ⟨#[78, 117, 109, 98, 101, 114]⟩, ⟨#[66, 111, 111, 108, 101, 97, 110]⟩, ⟨#[77, 97, 116, 104]⟩, ⟨#[69, 114, 114, 111, 114]⟩, ⟨#[84, 121, 112, 101, 69, 114, 114, 111, 114]⟩, ⟨#[82, 97, 110, 103, 101, 69, 114, 114, 111, 114]⟩, ⟨#[82, 101, 102, 101, 114, 101, 110, 99, 101, 69, 114, 114, 111, 114]⟩, ⟨#[112, 114, 105, 110, 116]⟩, ⟨#[78, 97, 78]⟩, ⟨#[73, 110, 102, 105, 110, 105, 116, 121]⟩]
def namesV : Array Value := #[.string ⟨#[79, 98, 106, 101, 99, 116]⟩, .string ⟨#[70, 117, 110, 99, 116, 105, 111, 110]⟩, .string ⟨#[65, 114, 114, 97, 121]⟩, .string ⟨#[83, 116, 114, 105, 110, 103]⟩, .string ⟨#[78, 117, 109, 98, 101, 114]⟩, .string ⟨#[66, 111, 111, 108, 101, 97, 110]⟩, .string ⟨#[77, 97, 116, 104]⟩, .string ⟨#[69, 114, 114, 111, 114]⟩, .string ⟨#[84, 121, 112, 101, 69, 114, 114, 111, 114]⟩, .string ⟨#[82, 97, 110, 103, 101, 69, 114, 114, 111, 114]⟩, .string ⟨#[82, 101, 102, 101, 114, 101, 110, 99, 101, 69, 114, 114, 111, 114]⟩, .string ⟨#[112, 114, 105, 110, 116]⟩, .string ⟨#[78, 97, 78]⟩, .string ⟨#[73, 110, 102, 105, 110, 105, 116, 121]⟩]
theorem namesV_eq : namesV = (names.map Value.string).toArray := rfl
theorem builtins_calls (w : World) : Calls Tryd.prog 8 #[] w fun e w' => e = .returned (.slice (some ⟨w.heap.size, 0, none⟩) 14 14) ∧ w' = w.alloc (.cells namesV 9) := by
  unfold namesV
  go_enter Tryd.func8, Tryd.ntmps8
  go_wp2
  go_ret
  exact ⟨rfl, rfl⟩
theorem names_calls (w : World) : Calls Tryd.prog 9 #[] w fun e w' => e = .returned (.slice (some ⟨w.heap.size, 0, none⟩) 14 14) ∧ w' = w.alloc (.cells namesV 9) := by
  unfold namesV
  go_enter Tryd.func9, Tryd.ntmps9
  go_wp2
  go_ret
  exact ⟨rfl, rfl⟩
/-- the place of a name among some. -/
def idx (s : ByteArray) : Nat → List ByteArray → Int
  | _, [] => -1
  | k, x :: l => if s = x then (k : Int) else idx s (k + 1) l
theorem idx_ge (s : ByteArray) : ∀ (l : List ByteArray) (k : Nat), idx s k l = -1 ∨ (0 ≤ idx s k l ∧ idx s k l < k + l.length) := by
  intro l
  induction l with
  | nil => intro k; exact .inl rfl
  | cons x l ih =>
    intro k
    simp only [idx, List.length_cons]
    split
    · right; omega
    · rcases ih (k + 1) with h | h
      · exact .inl h
      · right; omega
theorem nm_cell {w : World} {g : Nat} (h : Blk w g 9 namesV) {k : Nat} {x : ByteArray} (hx : names[k]? = some x) : w.cell? ⟨g, k, none⟩ = some (.string x) := by
  rw [h.cell, namesV_eq, List.getElem?_toArray, List.getElem?_map, hx]; rfl
theorem names_len : names.length = 14 := rfl
set_option maxRecDepth 100000 in
theorem index_calls (w : World) (g : Nat) (hb : Blk w g 9 namesV) (s : ByteArray) :
    Calls Tryd.prog 20 #[.slice (some ⟨g, 0, none⟩) 14 14, .string s] w fun r w' => r = .returned (.int .i64 (idx s 0 names)) ∧ w = w' := by
  have HB := Lib.hid hb
  clear hb
  go_enter Tryd.func20, Tryd.ntmps20
  go_wp2
  go_loopg [8] 14 (fun f i wr => ∃ k : Nat, i = .int .i64 k ∧ k + f = 14 ∧ idx s 0 names = idx s k (names.drop k) ∧ w = wr)
  case atStart => exact ⟨0, rfl, by omega, rfl, rfl⟩
  case round =>
    obtain ⟨k, rfl, hf, he, rfl⟩ := hrel
    have HE := Lib.hid he
    clear he
    by_cases hk : k < 14
    · obtain ⟨q, hx⟩ : ∃ e, names[k]? = some e := ⟨_, List.getElem?_eq_getElem (by rw [names_len]; omega)⟩
      have hd := drop_at' hx
      have c0 := nm_cell HB.out hx
      have hk' : (k : Int) < 14 := by omega
      have HDr := Lib.hid hd
      obtain ⟨f', hf'⟩ : ∃ f', gk = f' + 1 := ⟨gk - 1, by omega⟩
      have HF' := Lib.hid hf'
      have HF := Lib.hid hf
      have hs := str_eq s q
      clear hd hx hf hf'
      cases hq : decide (s = q)
      all_goals
        rw [hq] at hs
        have HQ := Lib.hid hq
        clear hq
        go_wp2
        first
        | (go_ret
           exact ⟨by rw [HE.out, HDr.out, idx, if_pos (of_decide_eq_true HQ.out)]; rfl, rfl⟩)
        | (go_roundg f'
           case measure => have := HF'.out; omega
           case rel => exact ⟨k + 1, by simp, by have := HF'.out; have := HF.out; omega, by rw [HE.out, HDr.out, idx, if_neg (of_decide_eq_false HQ.out)], rfl⟩)
    · have hk' : ¬ (k : Int) < 14 := by omega
      obtain rfl : k = 14 := by omega
      clear hf
      go_wp2
      go_ret
      exact ⟨by rw [HE.out]; rfl, rfl⟩
/-- a name's number, and whether it is a builtin's. -/
def bi (s : ByteArray) : Int × Bool := (max (idx s 0 names) 0, decide (0 ≤ idx s 0 names))
set_option maxRecDepth 100000 in
theorem builtin_calls (w : World) (s : ByteArray) :
    Calls Tryd.prog 11 #[.string s] w fun r w' => r = .returned (.tuple #[.int .i64 (bi s).1, .bool (bi s).2]) ∧ w' = w.alloc (.cells namesV 9) := by
  have BC := Lib.hid (builtins_calls w)
  have IC := Lib.hid (index_calls (w.alloc (.cells namesV 9)) w.heap.size (Blk.new w 9 namesV) s)
  unfold bi
  have hi := idx_ge s names 0
  generalize idx s 0 names = i at *
  rw [names_len] at hi
  go_enter Tryd.func11, Tryd.ntmps11
  go_wp2_with (first | (go_at_call 8; (with_reducible refine BC.out.mono ?_); rintro e w1 ⟨rfl, rfl⟩) | (go_at_call 20; (with_reducible refine IC.out.mono ?_); rintro e w1 ⟨rfl, rfl⟩))
  all_goals
    go_ret2
    exact ⟨by first | (rw [Int.max_eq_left (by omega)]; rfl) | (rw [Int.max_eq_right (by omega)]; rfl), rfl⟩
end Go.Proofs.YtlenhcmgcgccmaaDoor
namespace Go.Proofs.YtlenhcmgcgccmaaDoor
open Go
set_option linter.unusedVariables false
set_option linter.unusedSimpArgs false
section
variable {P : Program} {ops : Array Oper} {Q : Exit → Act → World → Prop} {md : Region.Mode} {S : World → Prop} {L : Array Bool → Act → World → Prop} {n : Nat}
/-- the head: whatever order is picked among the operations ahead of number n, S holding behind each; L where the head is done. -/
def wpAnyT (P : Program) (md : Region.Mode) (ops : Array Oper) (Q : Exit → Act → World → Prop) (S : World → Prop) (n : Nat) (L : Array Bool → Act → World → Prop) : Nat → Array Bool → Act → World → Prop
  | 0, listed, a, w => L listed a w
  | f + 1, listed, a, w => Region.ready md ops listed ≠ [] ∧ ∀ i ∈ Region.ready md ops listed, i < n ∧ wpOp P ops Q i (fun a' w' => S w' ∧ wpAnyT P md ops Q S n L f (listed.setIfInBounds i true) a' w') a w
theorem wpAny_of_tail {g : Nat} (hL : ∀ listed a w, L listed a w → wpAny P md ops Q g listed a w) : ∀ (f : Nat) (listed : Array Bool) (a : Act) (w : World), wpAnyT P md ops Q S n L f listed a w → wpAny P md ops Q (f + g) listed a w
  | 0, listed, a, w, h => by rw [Nat.zero_add]; exact hL _ _ _ h
  | f + 1, listed, a, w, h => by
    rw [show f + 1 + g = (f + g) + 1 by omega]
    exact ⟨fun h0 => absurd h0 h.1, fun i hi => wpOp_mono (fun a' w' h' => wpAny_of_tail hL f _ a' w' h'.2) (h.2 i hi).2⟩
/-- each operation of the tail waits for one of the tail that stands ahead of it. -/
def chainT (md : Region.Mode) (ops : Array Oper) (n : Nat) : Bool :=
  (List.range ops.size).all fun t => decide (t ≤ n) || (List.range t).any fun j => decide (n ≤ j) && Region.waitsFor md ops t j
theorem tail_waitsT (hs : Region.sinkB md ops n = true) (hc : chainT md ops n = true) (hn : n < ops.size) {listed : Array Bool} (inv : HeadInv md ops n listed) :
    ∀ (d i : Nat), n - i = d → i < n → listed.getD i true = false → ∀ t, n ≤ t → t ∉ Region.ready md ops listed := by
  intro d
  induction d using Nat.strongRecOn with
  | _ d ih =>
    intro i hd hi hun t ht hr
    obtain ⟨_, ot, hot, hall⟩ := mem_ready.1 hr
    have htlt : t < ops.size := (Array.getElem?_eq_some_iff.1 hot).1
    by_cases htn : t = n
    · subst htn
      have h1 := List.all_eq_true.1 hs i (List.mem_range.2 hi)
      obtain ⟨j, hj, hj2⟩ := List.any_eq_true.1 h1
      simp only [Bool.and_eq_true, decide_eq_true_eq] at hj2
      obtain ⟨oj, hoj, e, he, hb, hon⟩ := Region.waitsFor_spec hj2.2
      have hjle : j ≤ t := by have := List.mem_range.1 hj; omega
      by_cases hjt : j = t
      · subst hjt
        have : oj = ot := Option.some.inj (hoj.symm.trans hot)
        subst this
        have h2 := hall e he hb
        rw [hon, getD_both hun] at h2
        cases h2
      · cases hl : listed.getD j false with
        | true =>
          have h2 := inv.closed j oj hoj hl e he hb
          rw [hon, getD_both hun] at h2
          cases h2
        | false =>
          have hjs : j < listed.size := by rw [inv.size]; omega
          exact ih (t - j) (by omega) j rfl (by omega) (getD_in hjs hl) t (Nat.le_refl _) hr
    · have h1 := List.all_eq_true.1 hc t (List.mem_range.2 htlt)
      simp only [Bool.or_eq_true, decide_eq_true_eq] at h1
      rcases h1 with h1 | h1
      · omega
      · obtain ⟨j, hj, hj2⟩ := List.any_eq_true.1 h1
        simp only [Bool.and_eq_true, decide_eq_true_eq] at hj2
        have hjt := List.mem_range.1 hj
        obtain ⟨o', ho', e, he, hb, hon⟩ := Region.waitsFor_spec hj2.2
        have : o' = ot := Option.some.inj (ho'.symm.trans hot)
        subst this
        have h2 := hall e he hb
        rw [hon, getD_both (inv.tail j hj2.1 (by omega))] at h2
        cases h2
theorem wpAnyT_first {i : Nat} {oi : Oper} {v : Value} (hi : ops[i]? = some oi) (hsel : ∀ (j : Nat) (o : Oper) cs b, ops[j]? = some o → o.op ≠ .select cs b)
    (hQ : ∀ c a w, Q (.panic c) (a.put oi.dst v) w → Q (.panic c) a w)
    (hs : Region.sinkB md ops n = true) (hc : chainT md ops n = true) (hn : n < ops.size) (hin : i < n)
    (hdone : ∀ listed a w, L listed a w → ∀ j ∈ Region.ready md ops listed, n ≤ j) :
    ∀ (f : Nat) (listed : Array Bool) (a : Act) (w : World), HeadInv md ops n listed →
      (∀ j oj, ops[j]? = some oj → j ≠ i → listed.getD j true = false → (∀ e ∈ oj.after, Region.binds md e = true → e.on ≠ i) → oi.apart ops oj = true) →
      i ∈ Region.ready md ops listed → YieldsIf P ops S oi v a → S w →
      wpAnyT P md ops Q S n L f (listed.setIfInBounds i true) (a.put oi.dst v) w → wpAnyT P md ops Q S n L (f + 1) listed a w := by
  intro f
  induction f with
  | zero =>
    intro listed a w inv _ hr hy hS H
    have hun := (mem_ready.1 hr).1
    refine ⟨fun h => (by rw [h] at hr; cases hr), fun j hj => ?_⟩
    have hjn : j < n := by
      rcases Nat.lt_or_ge j n with h | h
      · exact h
      · exact absurd hj (tail_waitsT hs hc hn inv _ i rfl hin hun j h)
    refine ⟨hjn, ?_⟩
    by_cases hji : j = i
    · subst hji; exact hy.wpOp hi hS ⟨hS, H⟩
    · have := hdone _ _ _ H j (ready_mono hj hji)
      omega
  | succ f ih =>
    intro listed a w inv hfree hr hy hS H
    have hun := (mem_ready.1 hr).1
    refine ⟨fun h => (by rw [h] at hr; cases hr), fun j hj => ?_⟩
    have hjn : j < n := by
      rcases Nat.lt_or_ge j n with h | h
      · exact h
      · exact absurd hj (tail_waitsT hs hc hn inv _ i rfl hin hun j h)
    refine ⟨hjn, ?_⟩
    by_cases hji : j = i
    · subst hji; exact hy.wpOp hi hS ⟨hS, H⟩
    · have h1 := (H.2 j (ready_mono hj hji)).2
      obtain ⟨hjun, oj, hoj, hall⟩ := mem_ready.1 hj
      have hnot : ∀ e ∈ oj.after, Region.binds md e = true → e.on ≠ i := fun e he hb heq => by
        have h1 := hall e he hb
        rw [heq, getD_both hun] at h1
        cases h1
      have h2 := wpOp_putIf hoj (hfree j oj hoj hji hjun hnot) (fun cs b => hsel i oi cs b hi) (fun cs b => hsel j oj cs b hoj) hQ hy h1
      have hfree' : ∀ k ok, ops[k]? = some ok → k ≠ i → (listed.setIfInBounds j true).getD k true = false →
          (∀ e ∈ ok.after, Region.binds md e = true → e.on ≠ i) → oi.apart ops ok = true := fun k ok hk hki hun hno => by
        refine hfree k ok hk hki ?_ hno
        by_cases hjk : j = k
        · subst hjk; exact hjun
        · rw [getD_set_ne true hjk] at hun; exact hun
      refine wpOp_mono (fun a' w' h3 => ⟨h3.2.1, ih (listed.setIfInBounds j true) a' w' (inv.set hj hjn) hfree' (ready_mono hr (Ne.symm hji)) h3.1 h3.2.1 ?_⟩) h2
      rw [Array.setIfInBounds_comm _ _ hji]
      exact h3.2.2
/-- the same conditions, to be computed. -/
def headB (md : Region.Mode) (ops : Array Oper) (n : Nat) (listed : Array Bool) : Bool :=
  decide (listed.size = ops.size) && ((List.range ops.size).all fun j => match ops[j]? with | some oj => !(listed.getD j false) || oj.after.all fun e => !(Region.binds md e) || listed.getD e.on false | none => true) &&
    ((List.range ops.size).all fun t => decide (t < n) || !(listed.getD t true))
theorem headB_spec {listed : Array Bool} (h : headB md ops n listed = true) : HeadInv md ops n listed := by
  simp only [headB, Bool.and_eq_true, decide_eq_true_eq] at h
  obtain ⟨⟨h1, h2⟩, h3⟩ := h
  refine ⟨h1, fun j oj hj hl e he hb => ?_, fun t ht hts => ?_⟩
  · have := List.all_eq_true.1 h2 j (List.mem_range.2 (Array.getElem?_eq_some_iff.1 hj).1)
    rw [hj] at this
    simp only [hl, Bool.not_true, Bool.false_or] at this
    have := Array.all_eq_true_iff_forall_mem.1 this e he
    simpa [hb] using this
  · have := List.all_eq_true.1 h3 t (List.mem_range.2 hts)
    simp only [Bool.or_eq_true, decide_eq_true_eq] at this
    rcases this with h | h
    · omega
    · simpa using h
def doneB (md : Region.Mode) (ops : Array Oper) (n : Nat) (listed : Array Bool) : Bool := (Region.ready md ops listed).all fun j => decide (n ≤ j)
/-- where the head is done. -/
def TailIs (P : Program) (md : Region.Mode) (ops : Array Oper) (Q : Exit → Act → World → Prop) (n g : Nat) (listed : Array Bool) (a : Act) (w : World) : Prop := doneB md ops n listed = true ∧ wpAnyH P md ops Q (fun _ => True) g listed a w
theorem wpAnyT_take {g i : Nat} {oi : Oper} {v : Value} {fuel : Nat} {listed : Array Bool} {a : Act} {w : World} (hi : ops[i]? = some oi)
    (hs : (Region.noSelect ops && Region.sinkB md ops n && chainT md ops n && decide (n < ops.size) && decide (i < n) && headB md ops n listed) = true) (hf : Region.free md ops listed i = true) (hr : (Region.ready md ops listed).contains i = true)
    (hQ : ∀ c a w, Q (.panic c) (a.put oi.dst v) w → Q (.panic c) a w) (hy : YieldsIf P ops S oi v a) (hS : S w)
    (h : wpAnyT P md ops Q S n (TailIs P md ops Q n g) fuel (listed.setIfInBounds i true) (a.put oi.dst v) w) : wpAnyT P md ops Q S n (TailIs P md ops Q n g) (fuel + 1) listed a w := by
  simp only [Bool.and_eq_true, decide_eq_true_eq] at hs
  obtain ⟨⟨⟨⟨⟨k1, k2⟩, k3⟩, k4⟩, k5⟩, k6⟩ := hs
  exact wpAnyT_first hi (Region.noSelect_spec k1) hQ k2 k3 k4 k5 (fun listed a w hL j hj => by simpa using List.all_eq_true.1 hL.1 j hj) fuel listed a w (headB_spec k6) (Region.free_spec hi hf) (by simpa using hr) hy hS h
def AllReadyT (P : Program) (md : Region.Mode) (ops : Array Oper) (Q : Exit → Act → World → Prop) (S : World → Prop) (n : Nat) (L : Array Bool → Act → World → Prop) (fuel : Nat) (listed : Array Bool) (a : Act) (w : World) (rs : List Nat) : Prop :=
  ∀ i ∈ rs, i < n ∧ wpOp P ops Q i (fun a' w' => S w' ∧ wpAnyT P md ops Q S n L fuel (listed.setIfInBounds i true) a' w') a w
theorem AllReadyT.nil {fuel : Nat} {listed : Array Bool} {a : Act} {w : World} : AllReadyT P md ops Q S n L fuel listed a w [] := fun _ h => by cases h
theorem AllReadyT.cons {fuel : Nat} {listed : Array Bool} {a : Act} {w : World} {i : Nat} {o : Oper} {rs : List Nat} (hin : i < n) (ho : ops[i]? = some o)
    (h : ∀ K' : Act → World → Prop, Shut (∀ a w, S w → (S w → wpAnyT P md ops Q S n L fuel (listed.setIfInBounds i true) a w) → K' a w) → if Region.wanted o (yielded ops a.tmps) = true then Oper.wp P o a w K' Q else K' (a.put o.dst undef) w)
    (hs : AllReadyT P md ops Q S n L fuel listed a w rs) : AllReadyT P md ops Q S n L fuel listed a w (i :: rs) := fun j hj => by
  rcases List.mem_cons.1 hj with rfl | hj
  · exact ⟨hin, wpOp_step ho (fun K' hK => h K' (fun a w hS hW => hK a w ⟨hS, hW hS⟩))⟩
  · exact hs j hj
theorem wpAnyT_ready {rs : List Nat} {fuel : Nat} {listed : Array Bool} {a : Act} {w : World} (hr : Region.ready md ops listed = rs) (hne : rs ≠ [])
    (h : AllReadyT P md ops Q S n L fuel listed a w rs) : wpAnyT P md ops Q S n L (fuel + 1) listed a w := ⟨fun h0 => hne (hr ▸ h0), hr ▸ h⟩
theorem wpAnyT_done {g : Nat} {listed : Array Bool} {a : Act} {w : World} (hd : doneB md ops n listed = true) (h : wpAnyH P md ops Q (fun _ => True) g listed a w) : wpAnyT P md ops Q S n (TailIs P md ops Q n g) 0 listed a w := ⟨hd, h⟩
/-- the beginning. -/
theorem wp_region_tail {id : Nat} {a : Act} {w : World} (n g : Nat) (hg : n + g = ops.size) (hm : P.follows .mixedOrders = true) (hS : S w.drew)
    (h : S w.drew → wpAnyT P .any ops Q S n (TailIs P .any ops Q n g) n (Array.replicate ops.size false) a w.drew) : (Code.region id ops true).wp P Q a w := by
  refine wp_region_any hm ?_
  have := wpAny_of_tail (P := P) (md := .any) (ops := ops) (Q := Q) (S := S) (n := n) (g := g) (fun listed a w hL => wpAny_of_held _ _ _ _ hL.2) n _ _ _ (h hS)
  rw [hg] at this
  exact this
end
end Go.Proofs.YtlenhcmgcgccmaaDoor
namespace Go.Proofs.YtlenhcmgcgccmaaDoor
open Go.RowKit Go.Shelf Go
set_option linter.unusedVariables false
set_option linter.unusedSimpArgs false
attribute [local go_sem] Oper.semAt_some
/-- the places that have come when k rounds are over. -/
def came (len k : Nat) : List Nat := (List.range k).map fun j => len - 1 - j
theorem came_succ (len k : Nat) : came len (k + 1) = came len k ++ [len - 1 - k] := by simp [came, List.range_succ]
theorem came_length (len k : Nat) : (came len k).length = k := by simp [came]
set_option maxRecDepth 100000 in
set_option maxHeartbeats 2000000 in
theorem back1_in (F : Fence) (n : Nat) (h7 : F.fn 77) (hro : F.round = none) (hn : 1 ≤ n) (l Bs n₀ b off len cap : Nat) (vs : Nat → Value) (hreach : len ≤ 140737488351232) (hb : b < n₀) (hBn : Bs < n₀) (J Jx : List Nat → World → Prop)
    (hY : ∀ (pre : List Nat) (x : Nat) W, J pre W → pre.length < len → YieldAt F (n - 1) Tryd.prog l #[.int .i64 (x : Int), vs x] W fun e W' =>
      (e = .returned (.bool true) ∧ J (pre ++ [x]) W' ∧ Below n₀ W W') ∨ (e = .returned (.bool false) ∧ Jx (pre ++ [x]) W'))
    (W : World) (hBs : W.cell? ⟨Bs, 0, none⟩ = some (.slice (some ⟨b, off, none⟩) len cap)) (hc : ∀ j, j < len → W.cell? ⟨b, off + j, none⟩ = some (vs j)) (h0 : J [] W) :
    CallsIn F n Tryd.prog 77 #[.func (.yield l) #[] #[], .pointer (some ⟨Bs, 0, none⟩)] W fun e W' => (∃ v, e = .returned v) ∧
      ((∃ ys, ys = came len len ∧ J ys W') ∨ (∃ pre, (∃ k, k ≤ len ∧ pre = came len k) ∧ Jx pre W')) := by
  refine callsIn_of_wp Tryd.func77 rfl h7 ?_ hro
  simp only [Tryd.ntmps77, List.size_toArray, List.length_cons, List.length_nil, Nat.reduceAdd, Nat.reduceSub, Array.replicate_succ, Array.replicate_zero, List.push_toArray, List.append_toArray, List.nil_append, List.cons_append]
  have hlen : (len : Int) ≤ 140737488351232 := by omega
  gi_wp2
  gi_loopw [3] (fun i wr => ∃ r : Nat, r ≤ len ∧ i = .int .i64 ((r : Int) - 1) ∧ J (came len (len - r)) wr ∧ Below n₀ W wr)
    (fun i _ => (intOf i + 1).toNat)
  case atStart => exact ⟨len, Nat.le_refl _, rfl, by simpa [came] using h0, Below.refl _ _⟩
  case round =>
    obtain ⟨r, hr, rfl, hJs, hnx⟩ := hrel
    have hbx : wr.cell? ⟨Bs, 0, none⟩ = some (.slice (some ⟨b, off, none⟩) len cap) := (hnx.cell (p := ⟨Bs, 0, none⟩) hBn).trans hBs
    rcases r with _ | r
    · rw [show (((0 : Nat) : Int) - 1) = -1 by rfl] at *
      gi_wp2
      go_end0
      exact ⟨⟨_, rfl⟩, .inl ⟨_, rfl, by simpa using hJs⟩⟩
    · rw [show (((r + 1 : Nat) : Int) - 1) = (r : Int) by omega] at *
      have hcx : wr.cell? ⟨b, off + r, none⟩ = some (vs r) := (hnx.cell (p := ⟨b, off + r, none⟩) hb).trans (hc r (by omega))
      obtain ⟨fn, tmps, assign, body, hy, hR⟩ := hY _ r wr hJs (by rw [came_length]; omega)
      have h1 : (r : Int) < (len : Int) := by omega
      have h2 : (0 : Int) ≤ (r : Int) := by omega
      gi_wp2
      refine hR.mono ?_
      rintro e W3 (⟨rfl, hJ3, hk3⟩ | ⟨rfl, hJx3⟩)
      · gi_wp2
        go_roundw
        case rel => exact ⟨r, by omega, by simp, by
          have : len - r = (len - (r + 1)) + 1 := by omega
          rw [this, came_succ, show len - 1 - (len - (r + 1)) = r by omega]; exact hJ3, hnx.trans hk3⟩
        case measure => simp [intOf]
      · gi_wp2
        refine bodyPost_ret (results_none rfl _ _ _) rfl ?_
        exact ⟨⟨_, rfl⟩, .inr ⟨_, ⟨len - r, by omega, by
          have : len - r = (len - (r + 1)) + 1 := by omega
          rw [this, came_succ, show len - 1 - (len - (r + 1)) = r by omega]⟩, hJx3⟩⟩
theorem back_in (F : Fence) (n : Nat) (h5 : F.fn 75) (hro : F.round = none) (a : Option Addr) (len cap : Nat) (w : World) :
    CallsIn F n Tryd.prog 75 #[.slice a len cap] w fun e w' => e = .returned (.func (.func 77) #[] #[.pointer (some ⟨w.heap.size, 0, none⟩)]) ∧ w' = w.alloc (.cells #[.slice a len cap] 61) := by
  refine callsIn_of_wp Tryd.func75 rfl h5 ?_ hro
  simp only [Tryd.ntmps75, List.size_toArray, List.length_cons, List.length_nil, Nat.reduceAdd, Nat.reduceSub, Array.replicate_succ, Array.replicate_zero, List.push_toArray, List.append_toArray, List.nil_append, List.cons_append]
  gi_wp2
  go_ret
  exact ⟨rfl, rfl⟩
theorem back_stops (F : Fence) (n : Nat) (h7 : F.fn 77) (hro : F.round = none) (hn : 1 ≤ n) (Bs n₀ b off len cap : Nat) (vs : Nat → Value) (hreach : len ≤ 140737488351232) (hb : b < n₀) (hBn : Bs < n₀) (w : World) (hn₀ : n₀ ≤ w.heap.size)
    (hc0 : w.cell? ⟨Bs, 0, none⟩ = some (.slice (some ⟨b, off, none⟩) len cap)) (hc : ∀ j, j < len → w.cell? ⟨b, off + j, none⟩ = some (vs j)) :
    SeqStopsK F n Tryd.prog 77 #[.pointer (some ⟨Bs, 0, none⟩)] (fun x : Nat => #[Value.int .i64 (x : Int), vs x]) (Below n₀) (fun ys => ys = came len len) (fun pre => ∃ k, k ≤ len ∧ pre = came len k) len w := fun l J Jx W hW _ _ hY h0 =>
  back1_in F n h7 hro hn l Bs n₀ b off len cap vs hreach hb hBn J Jx hY W ((hW.cell (p := ⟨Bs, 0, none⟩) (Nat.lt_of_lt_of_le hBn hn₀)).trans hc0) (fun j hj => (hW.cell (p := ⟨b, off + j, none⟩) (Nat.lt_of_lt_of_le hb hn₀)).trans (hc j hj)) h0
end Go.Proofs.YtlenhcmgcgccmaaDoor
namespace Go.Proofs.YtlenhcmgcgccmaaDoor
open Go.RowKit Go.Shelf Go
set_option linter.unusedVariables false
set_option linter.unusedSimpArgs false
attribute [local go_sem] Oper.semAt_some
end Go.Proofs.YtlenhcmgcgccmaaDoor
namespace Go.Proofs.YtlenhcmgcgccmaaDoor
open Go.RowKit Go
set_option linter.unusedVariables false
set_option linter.unusedSimpArgs false
theorem below_via {w w1 w2 : World} (h : Below w.heap.size w w1) (k : Below w1.heap.size w1 w2) : Below w.heap.size w w2 := h.trans (k.mono h.size)
theorem below_alloc {w w1 : World} {o : Obj} (h : Below w.heap.size w w1) : Below w.heap.size w (w1.alloc o) := h.alloc h.size o
theorem own_below {w w' : World} {base : Nat} {e : TypeId} {s : Nat} {x : Value} {n : Nat} {xs : List Value} (h : Below w.heap.size w w') (ho : w.ownsRow base e s x n xs) : w'.ownsRow base e s x n xs := by
  have hlt := ho.lt
  obtain ⟨h3, h4⟩ := ho
  refine ⟨h3, ?_⟩
  rcases h4 with h4 | ⟨g, cap, cur, e1, e2, e3, e4⟩
  · exact .inl h4
  · exact .inr ⟨g, cap, cur, e1, e2, by rw [h.block g (hlt g (by rw [e1]; rfl)).2]; exact e3, e4⟩
theorem own_is_slice {w : World} {base n s : Nat} {e : TypeId} {v : Value} {xs : List Value} (h : w.ownsRow base e s v n xs) : ∃ A c, v = .slice A n c := by
  rcases h.2 with ⟨rfl, h2⟩ | ⟨g, cap, cur, rfl, _⟩
  · have : n = 0 ∨ s = 0 := by have := h.1; rw [h2] at this; simp at this; omega
    rcases Nat.eq_zero_or_pos n with h0 | h0
    · subst h0; exact ⟨none, 0, rfl⟩
    · obtain ⟨g, c, e1, _⟩ := h.form h0
      cases e1
  · exact ⟨_, _, rfl⟩

/-- the types of blocks that the walk writes: its own record, scopes, variables, uses, blocks, labels. -/
def wr (t : TypeId) : Bool := t == 64 || t == 41 || t == 44 || t == 46 || t == 78 || t == 99
/-- what lies below B, and every block of another type, lies as it lay. -/
structure Keep (B : Nat) (w w' : World) : Prop where
  bel : Below B w w'
  keep : ∀ b, b < w.heap.size → (b < B ∨ ∃ cs t, w.heap[b]? = some (.cells cs t (0, 0)) ∧ wr t = false) → w'.heap[b]? = w.heap[b]?
theorem Keep.refl (B : Nat) (w : World) : Keep B w w := ⟨Below.refl B w, fun _ _ _ => rfl⟩
theorem Keep.trans {B : Nat} {a b c : World} (h : Keep B a b) (k : Keep B b c) : Keep B a c :=
  ⟨h.bel.trans k.bel, fun x hx ho => by
    have e := h.keep x hx ho
    rw [k.keep x (Nat.lt_of_lt_of_le hx h.bel.size) (ho.imp id fun ⟨cs, t, hc⟩ => ⟨cs, t, e.trans hc.1, hc.2⟩), e]⟩
theorem Keep.below {B : Nat} {w w' : World} (h : Below w.heap.size w w') (hB : B ≤ w.heap.size) : Keep B w w' := ⟨h.mono hB, fun b hb _ => h.block b hb⟩
theorem Keep.blk {B : Nat} {w w' : World} {b : Nat} {t : TypeId} {cs : Array Value} (h : Keep B w w') (hb : Blk w b t cs) (ht : wr t = false) : Blk w' b t cs :=
  (h.keep b hb.lt (.inr ⟨cs, t, hb, ht⟩)).trans hb
theorem Keep.grown {B : Nat} {w w' : World} {row : Option Nat} (h : w.grownBy w' row) (hB : B ≤ w.heap.size) (hr : ∀ g, row = some g → B ≤ g ∧ ∀ cs t, w.heap[g]? = some (.cells cs t (0, 0)) → wr t = true) : Keep B w w' := by
  refine ⟨(Below.refl _ _).grown h hB (fun g hg => (hr g hg).1), fun b hb ho => h.block b hb ?_⟩
  rintro e
  obtain ⟨h1, h2⟩ := hr b e.symm
  rcases ho with ho | ⟨cs, t, hc, n1⟩
  · omega
  · rw [h2 cs t hc] at n1; cases n1
theorem Keep.set_ {B : Nat} {w : World} {p i : Nat} {t : TypeId} {cs : Array Value} (hb : Blk w p t cs) (ht : wr t = true) (hB : B ≤ p) (u : Value) : Keep B w (w.setCell ⟨p, i, none⟩ u) := by
  refine ⟨(Below.refl _ _).setCell (p := ⟨p, i, none⟩) hB u, fun b hlt ho => Below.heap_setCell w ⟨p, i, none⟩ u b ?_⟩
  rintro rfl
  rcases ho with ho | ⟨cs', t', ho, n1⟩
  · exact absurd hB (by simpa using ho)
  · unfold Blk at hb; rw [hb] at ho; injection ho with ho; injection ho with _ ho; subst ho; rw [ht] at n1; cases n1
theorem own_row_type {w : World} {base n s : Nat} {e : TypeId} {v : Value} {xs : List Value} (h : w.ownsRow base e s v n xs) {g : Nat} (hg : v.ownBlock = some g) : ∀ cs t, w.heap[g]? = some (.cells cs t (0, 0)) → t = e := by
  intro cs t hc
  rcases h.2 with ⟨rfl, _⟩ | ⟨g', cap, cur, rfl, _, hh, _⟩
  · simp [Value.ownBlock] at hg
  · have : g' = g := by simpa [Value.ownBlock] using hg
    subst this
    rw [hh] at hc; injection hc with hc; injection hc with _ hc; exact hc.symm
theorem info46 : (Tryd.prog.info? 46).map (fun i => (i.zero, i.size, i.bytes)) = some (some (.agg #[.int .i64 0, .int .i64 0]), 2, 16) := by kernel_rfl
theorem own_set {w : World} {base n s : Nat} {e t : TypeId} {v : Value} {xs : List Value} {p : Nat} {cs : Array Value} (h : w.ownsRow base e s v n xs) (hb : Blk w p t cs) (hne : e ≠ t) (i : Nat) (u : Value) : (w.setCell ⟨p, i, none⟩ u).ownsRow base e s v n xs := by
  obtain ⟨h3, h4⟩ := h
  refine ⟨h3, ?_⟩
  rcases h4 with h4 | ⟨g, cap, cur, e1, e2, e3, e4⟩
  · exact .inl h4
  · exact .inr ⟨g, cap, cur, e1, e2, (Below.heap_setCell w ⟨p, i, none⟩ u g (Blk.ne_ (show Blk w g e cur from e3) hb hne)).trans e3, e4⟩
end Go.Proofs.YtlenhcmgcgccmaaDoor
namespace Go.Proofs.YtlenhcmgcgccmaaDoor
open Go.RowKit Go
set_option linter.unusedVariables false
set_option linter.unusedSimpArgs false
/-- a node's six cells. -/
def NodeAt (w : World) (b off : Nat) (vs : Array Value) : Prop := ∀ j u, vs[j]? = some u → w.cell? ⟨b, off + j, none⟩ = some u
end Go.Proofs.YtlenhcmgcgccmaaDoor
namespace Go.Proofs.YtlenhcmgcgccmaaDoor
open Go.RowKit Go
set_option linter.unusedVariables false
set_option linter.unusedSimpArgs false
/-! maps -/
def MapIs (w : World) (k : TypeId) (b : Nat) (es : List (Value × Value)) : Prop :=
  ∃ arr clock, w.heap[b]? = some (.map arr clock) ∧ arr.toList.map (fun e => (e.key, e.val)) = es ∧ ∀ e ∈ arr.toList, ∃ l, keyOf Tryd.prog k e.key = some l
section
variable {w w' : World} {k : TypeId} {b : Nat} {es : List (Value × Value)}
theorem MapIs.lt (h : MapIs w k b es) : b < w.heap.size := by
  obtain ⟨arr, clock, hb, _⟩ := h
  exact (Array.getElem?_eq_some_iff.1 hb).1
theorem MapIs.same (h : MapIs w k b es) (hb : w'.heap[b]? = w.heap[b]?) : MapIs w' k b es := by
  obtain ⟨arr, clock, h1, h2⟩ := h
  exact ⟨arr, clock, hb.trans h1, h2⟩
theorem MapIs.no_cells (h : MapIs w k b es) {cs : Array Value} {t : TypeId} {f : Nat × Nat} (hc : w.heap[b]? = some (.cells cs t f)) : False := by
  obtain ⟨arr, clock, h1, _⟩ := h
  rw [h1] at hc; injection hc with hc; cases hc
theorem MapIs.made (w : World) (k : TypeId) : MapIs (w.alloc (.map #[] 0)) k w.heap.size [] := ⟨#[], 0, (MapKept.heap_alloc w _).1, rfl, by simp⟩
variable {t e : TypeId}
theorem MapIs.look (h : MapIs w k b es) (K : Maps.Keyed Tryd.prog k) (ht : Tryd.prog.underlying t = some (.map k e)) {z : Value} (hz : (zeroValue e).run Tryd.prog w = .ok z w) {key : Value} {kl : Lit} (hkey : keyOf Tryd.prog k key = some kl) :
    ((Instr.lookup t (.map (some b)) key true).run Tryd.prog w = .ok (.tuple #[z, .bool false]) w ∧ ∀ x ∈ es, x.1 ≠ key) ∨ ∃ v, (key, v) ∈ es ∧ (Instr.lookup t (.map (some b)) key true).run Tryd.prog w = .ok (.tuple #[v, .bool true]) w := by
  obtain ⟨arr, clock, hb, rfl, hk⟩ := h
  rcases K.find w hkey arr.toList hk with ⟨h1, h2⟩ | ⟨j, e0, h1, h2, h3⟩
  · refine .inl ⟨by simp [Instr.lookup, run_underlying ht, MapKept.run_getObj_map hb, K.check w _ hkey, h1, hz, Result.andThen], fun x hx => ?_⟩
    obtain ⟨y, hy, rfl⟩ := List.mem_map.1 hx
    exact h2 y hy
  · refine .inr ⟨e0.val, List.mem_map.2 ⟨e0, List.mem_of_getElem? h2, by rw [h3]⟩, by simp [Instr.lookup, run_underlying ht, MapKept.run_getObj_map hb, K.check w _ hkey, h1, Result.andThen]⟩
theorem MapIs.push (h : MapIs w k b es) (K : Maps.Keyed Tryd.prog k) (ht : Tryd.prog.underlying t = some (.map k e)) {key val : Value} {kl : Lit} (hkey : keyOf Tryd.prog k key = some kl) (hn : ∀ x ∈ es, x.1 ≠ key) :
    ∃ w', (Instr.mapUpdate t (.map (some b)) key val).run Tryd.prog w = .ok () w' ∧ MapIs w' k b (es ++ [(key, val)]) ∧ w.grownBy w' (some b) := by
  obtain ⟨arr, clock, hb, rfl, hk⟩ := h
  rcases K.find w hkey arr.toList hk with ⟨h1, h2⟩ | ⟨j, e0, h1, h2, h3⟩
  · refine ⟨ChangeMaps.setBlock w b (.map (arr.push ⟨key, val, clock⟩) (clock + 1)), ?_, ⟨_, _, ChangeMaps.heap_setBlock_same hb _, by simp, ?_⟩, ⟨rfl, rfl, rfl, by simp [ChangeMaps.setBlock], fun i _ hi => ChangeMaps.heap_setBlock_other hb _ (fun e => hi (by rw [e]))⟩⟩
    · simp [Instr.mapUpdate, run_underlying ht, MapKept.run_getObj_map hb, K.check w false hkey, h1, MapKept.run_setObj_map _ hb, Result.andThen, ChangeMaps.setBlock]
    · intro x hx
      simp only [Array.toList_push, List.mem_append, List.mem_singleton] at hx
      rcases hx with hx | rfl
      · exact hk x hx
      · exact ⟨_, hkey⟩
  · exact absurd h3 (hn (e0.key, e0.val) (List.mem_map.2 ⟨e0, List.mem_of_getElem? h2, rfl⟩))
end

/-! the tree in memory -/

theorem reads_one {w : World} {b : Nat} {t : TypeId} {x : Value} (h : Blk w b t #[x]) : Reads w w.heap.size 1 (some ⟨b, 0, none⟩) 1 [x] := by
  refine ⟨rfl, fun _ => ⟨_, rfl, h.lt, fun j u hj => ?_⟩⟩
  have e : (⟨b, 0, none⟩ : Addr).add j = ⟨b, j, none⟩ := by unfold Addr.add; split <;> simp_all
  rw [e, h.cell j]
  simpa using hj
theorem key9 : Maps.Keyed Tryd.prog 9 := Maps.string_keyed Tryd.underlying9
theorem info78 : (Tryd.prog.info? 78).map (fun i => (i.zero, i.size, i.bytes)) = some (some (.map none), 1, 8) := by kernel_rfl
theorem keyOf_str {P : Program} {k : TypeId} (hk : P.underlying k = some .string) (s : ByteArray) (hs : s.size ≤ maxLen) : ∃ l, keyOf P k (.string s) = some l := ⟨.string s.data.toList, by rw [keyOf_string hk]; simp [mapKey, hk, hs]⟩
theorem zero3 (w : World) : (zeroValue 3).run Tryd.prog w = .ok (.int .i64 0) w := by kernel_rfl
end Go.Proofs.YtlenhcmgcgccmaaDoor
namespace Go.Proofs.YtlenhcmgcgccmaaDoor
open Go.RowKit Go
set_option linter.unusedVariables false
set_option linter.unusedSimpArgs false
theorem grown_set (w : World) (p i : Nat) (u : Value) : w.grownBy (w.setCell ⟨p, i, none⟩ u) (some p) :=
  ⟨rfl, rfl, rfl, by simp [World.setCell], fun k hk hne => Below.heap_setCell w ⟨p, i, none⟩ u k (by rintro rfl; exact hne rfl)⟩
end Go.Proofs.YtlenhcmgcgccmaaDoor
namespace Go.Proofs.YtlenhcmgcgccmaaDoor
open Go.RowKit Go
set_option linter.unusedVariables false
set_option linter.unusedSimpArgs false
theorem key3 : Maps.Keyed Tryd.prog 3 := Maps.int_keyed Tryd.underlying3
theorem zero4 (w : World) : (zeroValue 4).run Tryd.prog w = .ok (.bool false) w := by kernel_rfl
end Go.Proofs.YtlenhcmgcgccmaaDoor
namespace Go.Proofs.YtlenhcmgcgccmaaDoor
open Go.RowKit Go
set_option linter.unusedVariables false
set_option linter.unusedSimpArgs false
end Go.Proofs.YtlenhcmgcgccmaaDoor
