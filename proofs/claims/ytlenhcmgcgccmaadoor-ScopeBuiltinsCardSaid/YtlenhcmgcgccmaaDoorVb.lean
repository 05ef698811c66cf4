/- Scope: Resolve's deferred closure. -/
import Derived.Test.YtlenhcmgcgccmaaDoorUc
import Derived.Defers
import Derived.Recover
import Derived.Test.YtlenhcmgcgccmaaDoorUa
namespace Go.Proofs.YtlenhcmgcgccmaaDoor
open Go.RowKit Go
set_option linter.unusedVariables false
set_option linter.unusedSimpArgs false
theorem assert_nil (w : World) : (Instr.typeAssert .nilIface 20 58 true).run Tryd.prog w = .ok (.tuple #[.agg #[.int .i64 0, .int .i64 0], .bool false]) w := by kernel_rfl
theorem assert_bad (w : World) (a c : Int) : (Instr.typeAssert (.iface 58 (.agg #[.int .i64 a, .int .i64 c])) 20 58 true).run Tryd.prog w = .ok (.tuple #[.agg #[.int .i64 a, .int .i64 c], .bool true]) w := by kernel_rfl
set_option maxRecDepth 100000 in
set_option maxHeartbeats 4000000 in
theorem catch_idle (p q r : Addr) (w : World) :
    CallsD Tryd.prog 21 #[.pointer (some p), .pointer (some q), .pointer (some r)] .returning w fun e u' w' => e = .returned (.tuple #[]) ∧ u' = .returning ∧ w' = w.alloc (.cells #[.int .i64 0, .int .i64 0] 58) := by
  have hrep : Array.replicate 13 undef = #[undef, undef, undef, undef, undef, undef, undef, undef, undef, undef, undef, undef, undef] := rfl
  refine callsD_of_wpS Tryd.func21 rfl fun c₀ cs hu => ?_
  apply wpS_seq
  apply wpS_region
  simp [wpOpsS, go_sem, recoverD, hu, Tryd.ntmps21, Exit.thenS, assert_nil, hrep]
  refine wpS_of_wp ?_
  go_wp2
  cases c₀
  simp_all [bodyPostS, results, Tryd.results21]
/-- the world behind a panic that was caught. -/
def pan (w : World) (b0 b1 b2 : Nat) (a c : Int) : World := ((((((w.setCell ⟨b0, 0, none⟩ (.slice none 0 0)).setCell ⟨b0, 1, none⟩ (.slice none 0 0)).setCell ⟨b0, 2, none⟩ (.slice none 0 0)).setCell ⟨b1, 0, none⟩ (.int .i64 a)).setCell ⟨b2, 0, none⟩ (.int .i64 c)).alloc (.cells #[.int .i64 a, .int .i64 c] 58)).drew
set_option maxRecDepth 100000 in
set_option maxHeartbeats 4000000 in
theorem catch_pan (b0 b1 b2 : Nat) (a c : Int) (older : List PanicEntry) (w : World) (s0 s1 s2 x0 y0 : Value) (h0 : Blk w b0 36 #[s0, s1, s2]) (h1 : Blk w b1 3 #[x0]) (h2 : Blk w b2 37 #[y0]) :
    CallsD Tryd.prog 21 #[.pointer (some ⟨b0, 0, none⟩), .pointer (some ⟨b1, 0, none⟩), .pointer (some ⟨b2, 0, none⟩)] (.panicking ({ v := .iface 58 (.agg #[.int .i64 a, .int .i64 c]), recovered := false } :: older)) w fun e u' w' =>
      e = .returned (.tuple #[]) ∧ u' = .panicking ({ v := .iface 58 (.agg #[.int .i64 a, .int .i64 c]), recovered := true } :: older) ∧ w' = pan w b0 b1 b2 a c := by
  have hrep : Array.replicate 13 undef = #[undef, undef, undef, undef, undef, undef, undef, undef, undef, undef, undef, undef, undef] := rfl
  refine callsD_of_wpS Tryd.func21 rfl fun c₀ cs hu => ?_
  apply wpS_seq
  apply wpS_region
  simp [wpOpsS, go_sem, recoverD, hu, Tryd.ntmps21, Exit.thenS, assert_bad, hrep]
  refine wpS_of_wp ?_
  have e00 := h0.cell 0
  have e01 := h0.cell 1
  have e02 := h0.cell 2
  have e1 := h1.cell 0
  have e2 := h2.cell 0
  have f00 := h0.frozen 0
  have f01 := h0.frozen 1
  have f02 := h0.frozen 2
  have f1 := h1.frozen 0
  have f2 := h2.frozen 0
  simp only [List.getElem?_toArray, List.getElem?_cons_succ, List.getElem?_cons_zero] at e00 e01 e02 e1 e2
  have l0 := h0.lt
  have l1 := h1.lt
  have l2 := h2.lt
  have m0 : w.heap.size ≠ b0 := by omega
  have m1 : w.heap.size ≠ b1 := by omega
  have m2 : w.heap.size ≠ b2 := by omega
  have n01 : b0 ≠ b1 := Blk.ne_ h0 h1 (by decide)
  have n02 : b0 ≠ b2 := Blk.ne_ h0 h2 (by decide)
  have n12 : b1 ≠ b2 := Blk.ne_ h1 h2 (by decide)
  clear h0 h1 h2
  go_upto_region 2 with (fail)
  go_region
  clear e00 e01 e02 e1 e2 f00 f01 f02 f1 f2
  cases c₀
  simp +zetaDelta [bodyPostS, results, Tryd.results21, pan, go_sem]
end Go.Proofs.YtlenhcmgcgccmaaDoor
namespace Go.Proofs.YtlenhcmgcgccmaaDoor
open Go.RowKit Go
set_option linter.unusedVariables false
set_option linter.unusedSimpArgs false
theorem andM_inv {m k : PM} {s : Pl} (h : (andM m k s).1 = true) : (m s).1 = true ∧ (k (m s).2).1 = true := by
  unfold andM at h
  split at h
  · rename_i e; rw [e]; exact ⟨rfl, h⟩
  · cases h
theorem allM_inv {f : Tr → PM} : ∀ (l : List Tr) (s : Pl), (allM f l s).1 = true → ∀ t ∈ l, ∃ s', (f t s').1 = true
  | [], _, _, t, ht => by cases ht
  | x :: l, s, h, t, ht => by
    rw [allM] at h
    obtain ⟨h1, h2⟩ := andM_inv h
    rcases List.mem_cons.1 ht with rfl | ht
    · exact ⟨s, h1⟩
    · exact allM_inv l _ h2 t ht
def FnOk (t : Tr) : Prop := ∃ body, t.kids.getLast? = some body ∧ body.kind = 44 ∧ (∀ k ∈ body.kids, OkS k) ∧ ∀ k ∈ t.kids.dropLast, k.kind = 3 ∧ k.kids = []
structure PO (F : RF) : Prop where
  st : ∀ t gen s, (F.st t gen s).1 = true → OkS t
  ex : ∀ t gen s, (F.ex t gen s).1 = true → OkX t
  fn : ∀ t s, (F.fn t s).1 = true → FnOk t
theorem maybe_ok {F : RF} (h : PO F) {t : Tr} {gen : Bool} {s : Pl} (hh : (maybeM F t gen s).1 = true) : OkX t := by
  unfold maybeM at hh
  split at hh
  · rename_i hm; exact .miss t hm
  · exact h.ex _ _ _ hh
theorem elem_ok {F : RF} (h : PO F) {t : Tr} {gen : Bool} {s : Pl} (hh : (elemM F gen t s).1 = true) : OkS t := by
  unfold elemM at hh
  split at hh
  · rename_i hk
    rcases hl : t.kids with _ | ⟨a, _ | ⟨b, l⟩⟩ <;> rw [hl] at hh <;> dsimp only at hh
    · cases hh
    · exact .one t (.inl hk) a hl (maybe_ok h (andM_inv hh).2)
    · cases hh
  split at hh
  · rename_i hk
    rcases hl : t.kids with _ | ⟨a, _ | ⟨b, l⟩⟩ <;> rw [hl] at hh <;> dsimp only at hh
    · cases hh
    · exact .one t (.inr (.inl hk)) a hl (h.ex _ _ _ (andM_inv hh).2)
    · cases hh
  split at hh
  · rename_i hk
    obtain ⟨body, h1, h2, h3, h4⟩ := h.fn _ _ (andM_inv hh).2
    exact .fn t hk body h1 h2 h3 h4
  · exact h.st _ _ _ hh
theorem block_ok {F : RF} (h : PO F) {l : List Tr} {gen : Bool} {s : Pl} (hh : (blockM F l gen s).1 = true) : ∀ k ∈ l, OkS k := fun k hk => by
  obtain ⟨s', h1⟩ := allM_inv l s hh k hk
  exact elem_ok h h1
theorem fn_ok {F : RF} (h : PO F) {t : Tr} {s : Pl} (hh : (functionM F t s).1 = true) : FnOk t := by
  unfold functionM at hh
  cases hl : t.kids.getLast? with
  | none => rw [hl] at hh; cases hh
  | some body =>
    rw [hl] at hh
    dsimp only at hh
    split at hh
    · rename_i hc
      obtain ⟨h1, h2⟩ := andM_inv hh
      refine ⟨body, hl, hc.2, block_ok h h2, fun k hk => ?_⟩
      obtain ⟨s', h3⟩ := allM_inv _ _ h1 k hk
      unfold parM at h3
      split at h3
      · rename_i hp; exact hp
      · cases h3
    · cases hh
theorem shut_ok {F : RF} (h : PO F) {t : Tr} {free gen : Bool} {s : Pl} (hh : (shutM F t free gen s).1 = true) : OkS t ∧ (t.kind = 0 ∨ t.kind = 44) := by
  unfold shutM at hh
  split at hh
  · rename_i hm
    have hm : missing t = true := by
      cases hx : missing t
      · rw [hx] at hm; cases hm
      · rfl
    refine ⟨.miss t hm, .inl ?_⟩
    unfold missing at hm
    simp only [Bool.and_eq_true, decide_eq_true_eq] at hm
    exact hm.1
  split at hh
  · rename_i hk; exact ⟨.block t hk (block_ok h hh), .inr hk⟩
  · cases hh
theorem exs_ok {F : RF} (h : PO F) {l : List Tr} {gen : Bool} {s : Pl} (hh : (exsM F l gen s).1 = true) : ∀ k ∈ l, OkX k := fun k hk => by
  obtain ⟨s', h1⟩ := allM_inv l s hh k hk
  exact h.ex _ _ _ h1
theorem st_ok {F : RF} (h : PO F) {t : Tr} {gen : Bool} {s : Pl} (hh : (stP F t gen s).1 = true) : OkS t := by
  unfold stP at hh
  by_cases hk0 : t.kind = 44
  · rw [if_pos hk0] at hh
    have hk := hk0
    exact .block t hk (block_ok h hh)
  rw [if_neg hk0] at hh
  by_cases hk1 : (t.kids.length : Int) ≠ manyP t.kind
  · rw [if_pos hk1] at hh
    have hk := hk1
    cases hh
  rw [if_neg hk1] at hh
  by_cases hk2 : t.kind = 34
  · rw [if_pos hk2] at hh
    have hk := hk2
    rcases hl : t.kids with _ | ⟨a, _ | ⟨b, l⟩⟩ <;> rw [hl] at hh <;> dsimp only at hh
    · cases hh
    · exact .one t (.inr (.inr (.inl hk))) a hl (maybe_ok h hh)
    · cases hh
  rw [if_neg hk2] at hh
  by_cases hk3 : t.kind = 42 ∨ t.kind = 46
  · rw [if_pos hk3] at hh
    have hk := hk3
    rcases hl : t.kids with _ | ⟨a, _ | ⟨b, l⟩⟩ <;> rw [hl] at hh <;> dsimp only at hh
    · cases hh
    · exact .one t (by rcases hk with hk | hk <;> simp [hk]) a hl (h.ex _ _ _ hh)
    · cases hh
  rw [if_neg hk3] at hh
  by_cases hk4 : t.kind = 41
  · rw [if_pos hk4] at hh
    have hk := hk4
    rcases hl : t.kids with _ | ⟨a, _ | ⟨b, l⟩⟩ <;> rw [hl] at hh <;> dsimp only at hh
    · cases hh
    · exact .label t hk a hl (h.st _ _ _ hh)
    · cases hh
  rw [if_neg hk4] at hh
  by_cases hk5 : t.kind = 36
  · rw [if_pos hk5] at hh
    have hk := hk5
    rcases hl : t.kids with _ | ⟨a, _ | ⟨b, _ | ⟨c, l⟩⟩⟩ <;> rw [hl] at hh <;> dsimp only at hh
    · cases hh
    · cases hh
    · exact .two t (.inl hk) a b hl (h.ex _ _ _ (andM_inv hh).1) (h.st _ _ _ (andM_inv hh).2)
    · cases hh
  rw [if_neg hk5] at hh
  by_cases hk6 : t.kind = 35
  · rw [if_pos hk6] at hh
    have hk := hk6
    rcases hl : t.kids with _ | ⟨a, _ | ⟨b, _ | ⟨c, _ | ⟨d, l⟩⟩⟩⟩ <;> rw [hl] at hh <;> dsimp only at hh
    · cases hh
    · cases hh
    · cases hh
    · obtain ⟨h1, h2⟩ := andM_inv hh
      obtain ⟨h3, h4⟩ := andM_inv h2
      refine .if_ t hk a b c hl (h.ex _ _ _ h1) (h.st _ _ _ h3) ?_
      split at h4
      · rename_i hm; exact .miss c hm
      · exact h.st _ _ _ h4
    · cases hh
  rw [if_neg hk6] at hh
  by_cases hk7 : t.kind = 37
  · rw [if_pos hk7] at hh
    have hk := hk7
    rcases hl : t.kids with _ | ⟨a, _ | ⟨b, _ | ⟨c, _ | ⟨d, _ | ⟨e, l⟩⟩⟩⟩⟩ <;> rw [hl] at hh <;> dsimp only at hh
    · cases hh
    · cases hh
    · cases hh
    · cases hh
    · obtain ⟨h1, h2⟩ := andM_inv hh
      obtain ⟨h3, h4⟩ := andM_inv h2
      obtain ⟨h5, h6⟩ := andM_inv h4
      exact .for_ t hk a b c d hl (maybe_ok h h1) (maybe_ok h h3) (maybe_ok h h5) (h.st _ _ _ h6)
    · cases hh
  rw [if_neg hk7] at hh
  by_cases hk8 : t.kind = 38
  · rw [if_pos hk8] at hh
    have hk := hk8
    rcases hl : t.kids with _ | ⟨a, _ | ⟨b, _ | ⟨c, l⟩⟩⟩ <;> rw [hl] at hh <;> dsimp only at hh
    · cases hh
    · cases hh
    · split at hh
      · obtain ⟨h1, h2⟩ := andM_inv hh
        obtain ⟨h3, h4⟩ := andM_inv h2
        exact .two t (.inr hk) a b hl (h.ex _ _ _ h3) (h.st _ _ _ h4)
      · cases hh
    · cases hh
  rw [if_neg hk8] at hh
  by_cases hk9 : t.kind = 43
  · rw [if_pos hk9] at hh
    have hk := hk9
    rcases hl : t.kids with _ | ⟨a, _ | ⟨b, _ | ⟨c, _ | ⟨d, l⟩⟩⟩⟩ <;> rw [hl] at hh <;> dsimp only at hh
    · cases hh
    · cases hh
    · cases hh
    · obtain ⟨h1, h2⟩ := andM_inv hh
      split at h2
      · obtain ⟨h3, h4⟩ := andM_inv h2
        obtain ⟨h5, h6⟩ := andM_inv h4
        exact .try_ t hk a b c hl (shut_ok h h3).1 (shut_ok h h5).1 (shut_ok h h5).2 (shut_ok h h6).1
      · cases h2
    · cases hh
  rw [if_neg hk9] at hh
  · have hm : (t.kids.length : Int) = manyP t.kind := by
      by_cases hx : (t.kids.length : Int) = manyP t.kind
      · exact hx
      · exact absurd hx hk1
    by_cases hx : t.kind = 39 ∨ t.kind = 40 ∨ t.kind = 45
    · rw [manyP, if_neg (by omega), if_neg (by omega), if_neg (by omega), if_neg (by omega), if_pos hx] at hm
      exact .none_ t hx (List.eq_nil_of_length_eq_zero (by omega))
    · rw [manyP, if_neg (by omega), if_neg (by omega), if_neg (by omega), if_neg (by omega), if_neg hx] at hm
      omega
theorem ex_ok {F : RF} (h : PO F) {t : Tr} {gen : Bool} {s : Pl} (hh : (exP F t gen s).1 = true) : OkX t := by
  unfold exP at hh
  by_cases hk0 : t.kind = 1 ∨ t.kind = 2 ∨ t.kind = 4 ∨ t.kind = 5 ∨ t.kind = 6 ∨ t.kind = 7 ∨ t.kind = 8
  · rw [if_pos hk0] at hh
    have hk := hk0
    exact .leaf t (by omega) (List.eq_nil_of_length_eq_zero (by simpa [okM] using hh))
  rw [if_neg hk0] at hh
  by_cases hk1 : t.kind = 3
  · rw [if_pos hk1] at hh
    have hk := hk1
    split at hh
    · rename_i hl; exact .leaf t (by omega) (List.eq_nil_of_length_eq_zero hl)
    · cases hh
  rw [if_neg hk1] at hh
  by_cases hk2 : t.kind = 9
  · rw [if_pos hk2] at hh
    have hk := hk2
    exact .all_ t (by omega) (exs_ok h hh)
  rw [if_neg hk2] at hh
  by_cases hk3 : t.kind = 10
  · rw [if_pos hk3] at hh
    have hk := hk3
    refine .all_ t (by omega) fun k hkk => ?_
    obtain ⟨s', h1⟩ := allM_inv _ _ hh k hkk
    unfold propM at h1
    split at h1
    · rename_i hp; exact .all_ k (by have := hp.1; omega) (exs_ok h h1)
    · cases h1
  rw [if_neg hk3] at hh
  by_cases hk4 : t.kind = 12
  · rw [if_pos hk4] at hh
    have hk := hk4
    obtain ⟨body, h1, h2, h3, h4⟩ := fn_ok h (andM_inv hh).2
    exact .fn t hk body h1 h2 h3 h4
  rw [if_neg hk4] at hh
  by_cases hk5 : t.kind = 13
  · rw [if_pos hk5] at hh
    have hk := hk5
    split at hh
    · exact .all_ t (by omega) (exs_ok h hh)
    · cases hh
  rw [if_neg hk5] at hh
  by_cases hk6 : t.kind = 14 ∨ t.kind = 15
  · rw [if_pos hk6] at hh
    have hk := hk6
    split at hh
    · exact .all_ t (by omega) (exs_ok h hh)
    · cases hh
  rw [if_neg hk6] at hh
  by_cases hk7 : t.kind = 16
  · rw [if_pos hk7] at hh
    have hk := hk7
    split at hh
    · exact .all_ t (by omega) (exs_ok h hh)
    · cases hh
  rw [if_neg hk7] at hh
  by_cases hk8 : t.kind = 17
  · rw [if_pos hk8] at hh
    have hk := hk8
    rcases hl : t.kids with _ | ⟨a, _ | ⟨b, l⟩⟩ <;> rw [hl] at hh <;> dsimp only at hh
    · cases hh
    · split at hh
      · exact .upd t hk a hl (exs_ok h hh a (List.mem_singleton.2 rfl))
      · cases hh
    · cases hh
  rw [if_neg hk8] at hh
  by_cases hk9 : t.kind = 18
  · rw [if_pos hk9] at hh
    have hk := hk9
    split at hh
    · exact .all_ t (by omega) (exs_ok h hh)
    · cases hh
  rw [if_neg hk9] at hh
  by_cases hk10 : t.kind = 19
  · rw [if_pos hk10] at hh
    have hk := hk10
    split at hh
    · exact .all_ t (by omega) (exs_ok h hh)
    · cases hh
  rw [if_neg hk10] at hh
  by_cases hk11 : t.kind = 20
  · rw [if_pos hk11] at hh
    have hk := hk11
    split at hh
    · exact .all_ t (by omega) (exs_ok h hh)
    · cases hh
  rw [if_neg hk11] at hh
  by_cases hk12 : t.kind = 21
  · rw [if_pos hk12] at hh
    have hk := hk12
    rcases hl : t.kids with _ | ⟨a, _ | ⟨b, _ | ⟨c, l⟩⟩⟩ <;> rw [hl] at hh <;> dsimp only at hh
    · cases hh
    · cases hh
    · split at hh
      · exact .asg t hk a b hl (exs_ok h hh a (by simp)) (exs_ok h hh b (by simp))
      · cases hh
    · cases hh
  rw [if_neg hk12] at hh
  by_cases hk13 : t.kind = 22
  · rw [if_pos hk13] at hh
    have hk := hk13
    rcases hl : t.kids with _ | ⟨a, _ | ⟨b, l⟩⟩ <;> rw [hl] at hh <;> dsimp only at hh
    · cases hh
    · split at hh
      · exact .all_ t (by omega) (by rw [hl]; intro k hk; rw [List.mem_singleton.1 hk]; exact maybe_ok h hh)
      · cases hh
    · cases hh
  rw [if_neg hk13] at hh
  · cases hh
theorem po : ∀ n, PO (iterR n)
  | 0 => ⟨fun t gen s h => (by cases h), fun t gen s h => (by cases h), fun t s h => (by cases h)⟩
  | n + 1 => ⟨fun t gen s h => st_ok (po n) h, fun t gen s h => ex_ok (po n) h, fun t s h => fn_ok (po n) h⟩
theorem right_ok {t : Tr} (h : rightP t = true) : t.kind = 47 ∧ t.fitsD 300 = true ∧ t.size ≤ 131072 ∧ ∀ k ∈ t.kids, OkS k := by
  unfold rightP fitsP at h
  simp only [Bool.and_eq_true, decide_eq_true_eq] at h
  exact ⟨h.1, h.2.1.1, h.2.1.2, block_ok (po 300) h.2.2⟩
end Go.Proofs.YtlenhcmgcgccmaaDoor
