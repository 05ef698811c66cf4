/- Scope: find and declare, on the walk's record. -/
import Derived.Test.YtlenhcmgcgccmaaDoorUc
namespace Go.Proofs.YtlenhcmgcgccmaaDoor
open Go.RowKit Go
set_option linter.unusedVariables false
set_option linter.unusedSimpArgs false
theorem look_none {b : Bk} {nm : ByteArray} (h : ∀ e ∈ b, e.1 ≠ nm) : look b nm = none := by
  unfold look
  rw [List.find?_eq_none.2 (fun e he => by simpa using h e he)]; rfl
theorem look_some {b : Bk} {nm : ByteArray} (hn : (b.map (·.1)).Nodup) {e : ByteArray × Int} (he : e ∈ b) (hk : e.1 = nm) : look b nm = some e.2 := by
  induction b with
  | nil => cases he
  | cons x b ih =>
    rw [List.map_cons, List.nodup_cons] at hn
    unfold look
    rw [List.find?_cons]
    by_cases hx : x.1 = nm
    · rw [decide_eq_true hx]
      rcases List.mem_cons.1 he with rfl | he
      · rfl
      · exact absurd (List.mem_map.2 ⟨e, he, by rw [hk, hx]⟩) hn.1
    · rw [decide_eq_false hx]
      rcases List.mem_cons.1 he with rfl | he
      · exact absurd hk hx
      · exact ih hn.2 he
theorem look_mem {b : Bk} {nm : ByteArray} {v : Int} (h : look b nm = some v) : (nm, v) ∈ b := by
  unfold look at h
  obtain ⟨e, he, rfl⟩ := Option.map_eq_some_iff.1 h
  have h1 := List.mem_of_find?_eq_some he
  have h2 : e.1 = nm := by have := List.find?_some he; simpa using this
  subst h2; exact h1
theorem look_blk {W : World} {m : Nat} {b : Bk} (h : MapIs W 9 m (bents b)) (hn : (b.map (·.1)).Nodup) (nm : ByteArray) (hs : nm.size ≤ maxLen) :
    (Instr.lookup 78 (.map (some m)) (.string nm) true).run Tryd.prog W = .ok (.tuple #[.int .i64 ((look b nm).getD 0), .bool (look b nm).isSome]) W := by
  obtain ⟨l, hl⟩ := keyOf_str Tryd.underlying9 nm hs
  rcases h.look key9 Tryd.underlying78 (zero3 W) hl with ⟨h, hno⟩ | ⟨v, hv, h⟩
  · rw [look_none fun e he hk => hno (.string e.1, .int .i64 e.2) (List.mem_map.2 ⟨e, he, rfl⟩) (by rw [hk])]
    exact h
  · obtain ⟨e, he, hev⟩ := List.mem_map.1 hv
    simp only [Prod.mk.injEq, Value.string.injEq] at hev
    obtain ⟨h1, rfl⟩ := hev
    rw [look_some hn he h1]
    exact h
theorem look_nilmap (W : World) (nm : ByteArray) (hs : nm.size ≤ maxLen) : (Instr.lookup 78 (.map none) (.string nm) true).run Tryd.prog W = .ok (.tuple #[.int .i64 0, .bool false]) W := by
  obtain ⟨l, hl⟩ := keyOf_str Tryd.underlying9 nm hs
  rcases key9.find W hl [] (by simp) with ⟨h1, _⟩ | ⟨j, e, _, h2, _⟩
  · simp [Instr.lookup, run_underlying Tryd.underlying78, key9.check W _ hl, h1, zero3, Result.andThen]
  · simp at h2
theorem findB_none {nm : ByteArray} : ∀ (M : List Bk), (∀ (j : Nat) b, M[j]? = some b → look b nm = none) → findB M nm = none
  | [], _ => rfl
  | b :: M, h => by rw [findB, h 0 b rfl]; exact findB_none M fun j b' hj => h (j + 1) b' (by simpa using hj)
theorem findB_some {nm : ByteArray} {v : Int} : ∀ (M : List Bk) (k : Nat) (b : Bk), M[k]? = some b → look b nm = some v → (∀ (j : Nat) b, j < k → M[j]? = some b → look b nm = none) → findB M nm = some v
  | [], k, b, h, _, _ => by simp at h
  | x :: M, 0, b, h, hv, _ => by simp at h; subst h; rw [findB, hv]
  | x :: M, k + 1, b, h, hv, hno => by
    rw [findB, hno 0 x (by omega) rfl]
    exact findB_some M k b (by simpa using h) hv fun j b' hj hb => hno (j + 1) b' (by omega) (by simpa using hb)
def entB (bs : List Bk) (nm : ByteArray) (k : Nat) : Int × Bool := match bs[k]? with
  | some b => ((look b nm).getD 0, (look b nm).isSome)
  | none => (0, false)
theorem entB_false {bs : List Bk} {nm : ByteArray} {k : Nat} {b : Bk} (h : bs[k]? = some b) (hf : (entB bs nm k).2 = false) : look b nm = none := by
  unfold entB at hf; rw [h] at hf; simpa using hf
theorem entB_true {bs : List Bk} {nm : ByteArray} {k : Nat} {b : Bk} (h : bs[k]? = some b) (hf : (entB bs nm k).2 = true) : look b nm = some (entB bs nm k).1 := by
  unfold entB at hf ⊢; rw [h] at hf ⊢
  obtain ⟨v, hv⟩ := Option.isSome_iff_exists.1 hf
  show look b nm = some ((look b nm).getD 0)
  rw [hv]; rfl
/-- find. -/
theorem findW_calls {w : World} {p B : Nat} {ms : List Nat} {E : Env} {o : Out} {R : Rw} (h : WAt w p B ms E o R) (hne : 0 < E.blocks.length) (hlen : E.blocks.length ≤ 2000000) (nm : ByteArray) (hs : nm.size ≤ maxLen) (a : Int) :
    Calls Tryd.prog 71 #[.pointer (some ⟨p, 0, none⟩), .string nm, .int .i64 a] w fun e w' => Below w.heap.size w w' ∧ (∀ v, findP E.blocks nm a = .ok v → e = .returned (.int .i64 v)) ∧ (∀ c, findP E.blocks nm a = .error c → e = bad c) := by
  obtain ⟨g, c, hbv, hg0, hg1, hc1, hc2⟩ := own_some h.inn.bl hne
  have hblk := h.blk
  have hbl := h.inn.bl
  rw [hbv] at hblk hbl
  have hlm := h.inn.mlen
  have hvs : ∀ (j : Nat) (hj : j < E.blocks.length), ∃ m, ms[j]? = some m := fun j hj => ⟨_, List.getElem?_eq_getElem (by omega)⟩
  refine (find_all w p R.sv R.vv R.uv (.int .i64 E.fn) R.lv (.int .i64 E.loops) g 0 E.blocks.length c nm a (fun k => match ms[k]? with
    | some m => .map (some m)
    | none => .map none) (entB E.blocks nm) (by omega) hblk hg1 (fun j hj => ?_) (fun k W hW => ?_)).mono fun e w' ⟨hb, hr⟩ => ⟨hb, ?_⟩
  · obtain ⟨m, hm⟩ := hvs j hj
    rw [hm, Nat.zero_add]
    exact (own_cell hbl (by rw [List.getElem?_map, hm]; rfl)).1
  · rcases Nat.lt_or_ge k E.blocks.length with hk | hk
    · obtain ⟨m, hm⟩ := hvs k hk
      have hbk := List.getElem?_eq_getElem hk
      obtain ⟨h1, _⟩ := h.inn.maps k m _ hm hbk
      unfold entB
      rw [hm, hbk]
      exact look_blk (h1.same (hW.block m h1.lt)) (h.ent _ (List.getElem_mem hk)).1 nm hs
    · unfold entB
      rw [List.getElem?_eq_none hk, List.getElem?_eq_none (by omega)]
      exact look_nilmap W nm hs
  · have hrev : ∀ (j : Nat), j < E.blocks.length → E.blocks.reverse[j]? = E.blocks[E.blocks.length - 1 - j]? := fun j hj => List.getElem?_reverse hj
    have hone : ∀ (j : Nat), (∀ i, i < j → (entB E.blocks nm (E.blocks.length - 1 - i)).2 = false) → ∀ (i : Nat) b, i < j → E.blocks.reverse[i]? = some b → look b nm = none := fun j hj i b hi hb => by
      have hil : i < E.blocks.length := by have := (List.getElem?_eq_some_iff.1 hb).1; simpa using this
      rw [hrev i hil] at hb
      exact entB_false hb (hj i hi)
    unfold findP
    rcases hr with ⟨k, hk, hkt, hkf, rfl⟩ | ⟨hf, hbi, rfl⟩ | ⟨hf, hbi, rfl⟩
    · have hk' : E.blocks.length - 1 - k < E.blocks.length := by omega
      have hbk := List.getElem?_eq_getElem hk'
      rw [findB_some E.blocks.reverse k _ (by rw [hrev k hk]; exact hbk) (entB_true hbk hkt) (hone k hkf)]
      exact ⟨fun v hv => by injection hv with hv; rw [hv], fun c hc => by cases hc⟩
    · rw [findB_none E.blocks.reverse fun j b hb => hone E.blocks.length hf j b (by have := (List.getElem?_eq_some_iff.1 hb).1; simpa using this) hb, hbi]
      exact ⟨fun v hv => by simp at hv; rw [← hv], fun c hc => by simp at hc⟩
    · rw [findB_none E.blocks.reverse fun j b hb => hone E.blocks.length hf j b (by have := (List.getElem?_eq_some_iff.1 hb).1; simpa using this) hb, hbi]
      exact ⟨fun v hv => by simp at hv, fun c hc => by simp at hc; rw [← hc]⟩
theorem findP_range {w : World} {p B : Nat} {ms : List Nat} {E : Env} {o : Out} {R : Rw} (h : WAt w p B ms E o R) {nm : ByteArray} {a v : Int} (hv : findP E.blocks nm a = .ok v) : v = -1 ∨ (0 ≤ v ∧ v < o.vars.length) := by
  unfold findP at hv
  have key : ∀ (M : List Bk) v, findB M nm = some v → ∃ b ∈ M, look b nm = some v := by
    intro M
    induction M with
    | nil => intro v h; cases h
    | cons b M ih =>
      intro v h
      rw [findB] at h
      cases hl : look b nm with
      | some x => rw [hl] at h; injection h with h; subst h; exact ⟨b, by simp, hl⟩
      | none => rw [hl] at h; obtain ⟨b', hb', h'⟩ := ih v h; exact ⟨b', by simp [hb'], h'⟩
  cases hf : findB E.blocks.reverse nm with
  | some x =>
    rw [hf] at hv; injection hv with hv; subst hv
    obtain ⟨b, hb, hl⟩ := key _ _ hf
    have := (h.ent b (List.mem_reverse.1 hb)).2 _ (look_mem hl)
    exact .inr this
  | none =>
    rw [hf] at hv
    simp only at hv
    split at hv
    · injection hv with hv; exact .inl hv.symm
    · cases hv
end Go.Proofs.YtlenhcmgcgccmaaDoor
