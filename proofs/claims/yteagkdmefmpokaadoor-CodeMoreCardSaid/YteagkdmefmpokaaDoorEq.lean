/- Code: what is cut, what is more. -/
import Derived.Test.YteagkdmefmpokaaDoorEp
namespace Go.Proofs.YteagkdmefmpokaaDoor
open Go.RowKit Go
set_option linter.unusedVariables false
set_option linter.unusedSimpArgs false
/-- a header whose code is cut. -/
def cutH (h : Hd) (a : Nat) : Hd := { h with nc := a }
def cutF (F : Fn) (a : Nat) : Fn := { F with hd := cutH F.hd a, C := F.C.take a }
theorem letters_t : ∀ k, k < 63 → ∀ l, tbl[k]? = some l → (ltr l 0 = 116 → k = 57) ∧ (ltr l 1 = 116 → k = 58 ∨ k = 59) ∧ ltr l 2 ≠ 116 := by decide
theorem opd_cut {F : Fn} {a : Nat} {b kind x : Int} (h : kind ≠ 116) : opd 1 (cutF F a) b kind x = opd 1 F b kind x := by
  unfold opd
  rw [if_neg (c := kind = 116) h, if_neg (c := kind = 116) h]
  rfl
theorem opd_cut_t {F : Fn} {a : Nat} {b x : Int} (ha : a ≤ F.hd.nc) (h : opd 1 F b 116 x = true) : opd 1 (cutF F a) b 116 x = decide (x < a) := by
  rw [opd_t] at h ⊢
  obtain ⟨h0, h1⟩ := within_true h
  show within x a = _
  unfold within
  simp [h0]
theorem okI_cut {F : Fn} {a : Nat} {e : En} (ha : a ≤ F.hd.nc) (h : okI 1 F e = true) : okI 1 (cutF F a) e = (jmp1 e).all fun y => decide (y < a) := by
  have hshp : ∃ k : Nat, k < 63 ∧ e.s = k ∧ ∃ l, tbl[k]? = some l ∧ shp e.s = l := by
    by_cases h63 : 0 ≤ e.s ∧ e.s < 63
    · refine ⟨e.s.toNat, by omega, by omega, ?_⟩
      obtain ⟨l, h1, h2, _⟩ := shp_in (k := e.s.toNat) (by omega)
      exact ⟨l, h1, by rw [← h2]; congr 1; omega⟩
    · rw [okI_eq, shp_out (by omega)] at h; simp at h
  obtain ⟨k, hk, hek, l, hl, hsl⟩ := hshp
  obtain ⟨t0, t1, t2⟩ := letters_t k hk l hl
  rw [okI_eq] at h ⊢
  rw [hsl] at h ⊢
  simp only [Bool.and_eq_true] at h
  obtain ⟨h1, h2, h3, h4, h5⟩ := h
  have hge : (cutF F a).hd.ge = F.hd.ge := rfl
  rw [hge, h1, opd_cut (kind := ltr l 2) t2, h4, h5]
  have hjm : jmp1 e = if k = 57 then [e.h] else if k = 58 ∨ k = 59 then [e.o] else [] := by
    unfold jmp1; rw [hek]
    by_cases q1 : k = 57
    · subst q1; rfl
    · rw [if_neg q1, if_neg (by omega)]
      by_cases q2 : k = 58 ∨ k = 59
      · rw [if_pos q2, if_pos (by omega)]
      · rw [if_neg q2, if_neg (by omega)]
  rw [hjm]
  by_cases q0 : ltr l 0 = 116
  · have := t0 q0
    subst this
    have q1 : ltr l 1 ≠ 116 := by intro q; have := t1 q; omega
    rw [q0] at h2 ⊢
    rw [opd_cut q1, h3, opd_cut_t ha h2]
    simp
  · rw [opd_cut q0, h2]
    by_cases q1 : ltr l 1 = 116
    · have q2 := t1 q1
      rw [q1] at h3 ⊢
      rw [opd_cut_t ha h3, if_neg (by omega), if_pos q2]
      simp
    · rw [opd_cut q1, h3]
      have hk57 : k ≠ 57 := by
        intro q; subst q
        have : tbl[57]? = some [116, 45, 45] := by decide
        rw [this] at hl; cases hl; exact q0 (by decide)
      have hk589 : ¬ (k = 58 ∨ k = 59) := by
        rintro (q | q) <;> subst q
        · have : tbl[58]? = some [114, 116, 45] := by decide
          rw [this] at hl; cases hl; exact q1 (by decide)
        · have : tbl[59]? = some [114, 116, 45] := by decide
          rw [this] at hl; cases hl; exact q1 (by decide)
      rw [if_neg hk57, if_neg hk589]; simp
theorem takes_one {F : Fn} (h : F.C.all (okI 1 F) = true) : takesB [F] = true := by
  simp only [takesB, List.all_cons, List.all_nil, Bool.and_true, takesF, List.all_eq_true]
  intro e he
  unfold takesI
  by_cases h12 : e.s = 12
  · have h1 := List.all_eq_true.1 h e he
    have hs : shp 12 = [119, 102, 45] := by decide
    rw [okI_eq, h12, hs] at h1
    simp only [ltr, List.getD_cons_succ, List.getD_cons_zero, Bool.and_eq_true] at h1
    have := h1.2.2.1
    rw [show ((102 : UInt8).toNat : Int) = 102 from rfl, opd_f, Bool.and_eq_true] at this
    have h2 := within_true this.1
    have h3 : 0 < e.o := by simpa using this.2
    omega
  · simp [h12]
theorem all_congr {α : Type} {p q : α → Bool} {L : List α} (h : ∀ e ∈ L, p e = q e) : L.all p = L.all q := by
  induction L with
  | nil => rfl
  | cons x L ih => rw [List.all_cons, List.all_cons, h x (by simp), ih fun e he => h e (List.mem_cons_of_mem _ he)]
theorem all_jmp (C : List En) (p : Int → Bool) : (C.all fun e => (jmp1 e).all p) = (jmp C).all p := by
  unfold jmp; rw [List.all_flatMap]
theorem all_and {α : Type} (p q : α → Bool) (L : List α) : (L.all fun e => p e && q e) = (L.all p && L.all q) := by
  induction L with
  | nil => rfl
  | cons x L ih => rw [List.all_cons, List.all_cons, List.all_cons, ih]; cases p x <;> cases q x <;> cases L.all p <;> cases L.all q <;> rfl
/-- code that is cut may be run just if nothing in it goes beyond the cut. -/
theorem chk_cut {F : Fn} {a : Nat} {e : En} (hc : chk 1 [F] = true) (hl : F.C.length = F.hd.nc) (h1 : 1 ≤ a) (h2 : a ≤ F.hd.nc) (hx : F.C[a - 1]? = some e) :
    chk 1 [cutF F a] = ((ends e.s && ((jmp (F.C.take a)).all (fun y => decide (y < a)) && (tgt F.T).all (fun y => decide (y < a)))) && F.T.all fun t => decide (t.y ≤ a)) := by
  simp only [chk, Bool.and_eq_true, List.all_cons, List.all_nil, Bool.and_true] at hc
  obtain ⟨hh, hf, _⟩ := hc
  simp only [fnOk, Bool.and_eq_true, tail] at hf
  obtain ⟨hhd, hC, _, hT⟩ := hf
  have hC' : (cutF F a).C.all (okI 1 (cutF F a)) = (jmp (F.C.take a)).all (fun y => decide (y < a)) := by
    rw [← all_jmp]
    exact all_congr fun e he => okI_cut h2 (List.all_eq_true.1 hC e (List.mem_of_mem_take he))
  have hhead : headOk [cutF F a] = true := hh
  have hok : okHead (cutF F a).hd = true := by
    simp only [okHead, Bool.and_eq_true, decide_eq_true_eq] at hhd ⊢
    obtain ⟨q1, q2, q3⟩ := hhd
    exact ⟨by show 0 < a; omega, by show a ≤ 65536; omega, q3⟩
  have hlast : lastE (cutF F a) = ends e.s := by
    refine last_at (F := cutF F a) (k := a - 1) rfl ?_
    show (F.C.take a)[a - 1]? = some e
    rw [List.getElem?_take, if_pos (by omega)]; exact hx
  have hTT : (cutF F a).T.all (okH (cutF F a).hd.nc) = ((tgt F.T).all (fun y => decide (y < a)) && F.T.all fun t => decide (t.y ≤ a)) := by
    unfold tgt
    rw [List.all_map, ← all_and]
    refine all_congr fun t ht => ?_
    have := List.all_eq_true.1 hT t ht
    show okH a t = _
    simp only [okH, within, Bool.and_eq_true, decide_eq_true_eq] at this
    rw [Bool.eq_iff_iff]
    simp only [okH, within, Bool.and_eq_true, decide_eq_true_eq, Function.comp]
    omega
  have htk : (cutF F a).C.all (okI 1 (cutF F a)) = true → takesB [cutF F a] = true := takes_one
  simp only [chk, List.all_cons, List.all_nil, Bool.and_true, hhead, fnOk, hok, tail, hlast, hTT, Bool.true_and]
  rw [← hC']
  cases hz : (cutF F a).C.all (okI 1 (cutF F a))
  · simp
  · rw [htk hz]
    cases ends e.s <;> simp
/-- a function with as much, or more. -/
structure More (F G : Fn) : Prop where
  C : G.C = F.C
  T : G.T = F.T
  P : G.P = F.P
  nc : G.hd.nc = F.hd.nc
  np : G.hd.np = F.hd.np
  ge : G.hd.ge = F.hd.ge
  pa : G.hd.pa = F.hd.pa
  re : F.hd.re ≤ G.hd.re
  re4 : F.hd.re ≤ 400 → G.hd.re ≤ 400
  nk : F.hd.nk ≤ G.hd.nk
  nk6 : F.hd.nk ≤ 65536 → G.hd.nk ≤ 65536
  K : ∀ (k : Nat) (y : Cn), F.K[k]? = some y → G.K[k]? = some y
theorem More.refl (F : Fn) : More F F := ⟨rfl, rfl, rfl, rfl, rfl, rfl, rfl, Int.le_refl _, id, Nat.le_refl _, id, fun _ _ h => h⟩
theorem within_mono {x a b : Int} (h : within x a = true) (hab : a ≤ b) : within x b = true := by
  obtain ⟨h0, h1⟩ := within_true h
  exact within_lt (by omega) (by omega)
theorem txt_mono {F G : Fn} (m : More F G) {x : Int} (h : txt F x = true) : txt G x = true := by
  unfold txt at *
  rcases hk : F.K[x.toNat]? with _ | y
  · rw [hk] at h; simp at h
  · rw [hk] at h; rw [m.K _ _ hk]; exact h
theorem opd_mono {n n' : Nat} {F G : Fn} {b kind x : Int} (hn : n ≤ n') (m : More F G) (h : opd n F b kind x = true) : opd n' G b kind x = true := by
  have hre := m.re
  have hnk := m.nk
  unfold opd at *
  rw [m.np, m.nc]
  by_cases k114 : kind = 114
  · rw [if_pos k114] at h ⊢; exact within_mono h hre
  rw [if_neg k114] at h ⊢
  by_cases k119 : kind = 119
  · rw [if_pos k119] at h ⊢; exact within_mono h hre
  rw [if_neg k119] at h ⊢
  by_cases k107 : kind = 107
  · rw [if_pos k107] at h ⊢; exact within_mono h (by omega)
  rw [if_neg k107] at h ⊢
  by_cases k120 : kind = 120
  · rw [if_pos k120] at h ⊢; rw [Bool.and_eq_true] at h ⊢; exact ⟨within_mono h.1 (by omega), txt_mono m h.2⟩
  rw [if_neg k120] at h ⊢
  by_cases k115 : kind = 115
  · rw [if_pos k115] at h ⊢; exact h
  rw [if_neg k115] at h ⊢
  by_cases k102 : kind = 102
  · rw [if_pos k102] at h ⊢; rw [Bool.and_eq_true] at h ⊢; exact ⟨within_mono h.1 (by omega), h.2⟩
  rw [if_neg k102] at h ⊢
  by_cases k99 : kind = 99
  · rw [if_pos k99] at h ⊢; exact h
  rw [if_neg k99] at h ⊢
  by_cases k98 : kind = 98
  · rw [if_pos k98] at h ⊢; exact h
  rw [if_neg k98] at h ⊢
  by_cases k116 : kind = 116
  · rw [if_pos k116] at h ⊢; exact h
  rw [if_neg k116] at h ⊢
  by_cases k104 : kind = 104
  · rw [if_pos k104] at h ⊢; exact h
  rw [if_neg k104] at h ⊢
  by_cases k110 : kind = 110
  · rw [if_pos k110] at h ⊢; rw [Bool.and_eq_true] at h ⊢; exact ⟨h.1, within_mono h.2 hre⟩
  rw [if_neg k110] at h ⊢
  exact h
theorem okI_mono {n n' : Nat} {F G : Fn} {e : En} (hn : n ≤ n') (m : More F G) (h : okI n F e = true) : okI n' G e = true := by
  rw [okI_eq] at *
  simp only [Bool.and_eq_true] at *
  obtain ⟨h1, h2, h3, h4, h5⟩ := h
  exact ⟨h1, opd_mono hn m h2, opd_mono hn m h3, opd_mono hn m h4, by rw [m.ge]; exact h5⟩
theorem fnOk_mono {n n' : Nat} {F G : Fn} (hn : n ≤ n') (m : More F G) (h : fnOk n F = true) : fnOk n' G = true := by
  simp only [fnOk, Bool.and_eq_true, tail] at *
  obtain ⟨h1, h2, h3, h4⟩ := h
  refine ⟨?_, ?_, ?_, ?_⟩
  · simp only [okHead, Bool.and_eq_true, decide_eq_true_eq] at h1 ⊢
    obtain ⟨q1, q2, q3, q4, q5, q6⟩ := h1
    have r1 := m.re
    rw [m.nc, m.pa]
    exact ⟨q1, q2, m.nk6 q3, by omega, m.re4 q5, within_mono q6 (by omega)⟩
  · rw [m.C]
    exact List.all_eq_true.2 fun e he => okI_mono hn m (List.all_eq_true.1 h2 e he)
  · unfold lastE at *; rw [m.C, m.nc]; exact h3
  · rw [m.T, m.nc]; exact h4
theorem okP_mono {re re' : Int} {np : Nat} {t : Cp} (hr : re ≤ re') (h : okP re np t = true) : okP re' np t = true := by
  unfold okP at *
  cases hf : t.f
  · rw [hf] at h; exact within_mono h hr
  · rw [hf] at h; exact h
/-- a program with as much, or more, may be run. -/
theorem chk_more {n n' : Nat} {Fs Gs : List Fn} (hc : chk n Fs = true) (hl : Fs.length = n) (hl' : Gs.length = n') (hn : n ≤ n') (h200 : n' ≤ 200) (hall : ∀ G ∈ Gs, ∃ F ∈ Fs, More F G) (hat : ∀ (i : Nat) (F : Fn), Fs[i]? = some F → ∃ G, Gs[i]? = some G ∧ More F G) : chk n' Gs = true := by
  simp only [chk, Bool.and_eq_true] at hc
  obtain ⟨h1, h2, h3⟩ := hc
  have hin := in_of_all h2
  simp only [chk, Bool.and_eq_true]
  refine ⟨?_, ?_, ?_⟩
  · unfold headOk at *
    rw [hl]  at h1
    rcases h0 : Fs[0]? with _ | F
    · rw [h0] at h1; simp at h1
    · obtain ⟨G, hG, m⟩ := hat 0 F h0
      rw [h0] at h1
      rw [hl', hG]
      simp only [Option.map_some, Option.getD_some, Bool.and_eq_true, decide_eq_true_eq] at h1 ⊢
      obtain ⟨q1, q2, q3⟩ := h1
      refine ⟨by omega, by omega, ?_⟩
      unfold first0 at *
      rw [m.pa, m.ge, m.np]; exact q3
  · exact List.all_eq_true.2 fun G hG => by
      obtain ⟨F, hF, m⟩ := hall G hG
      exact fnOk_mono hn m (List.all_eq_true.1 h2 F hF)
  · exact List.all_eq_true.2 fun G hG => by
      obtain ⟨F, hF, m⟩ := hall G hG
      have h4 := List.all_eq_true.1 h3 F hF
      unfold takesF at *
      rw [m.C]
      refine List.all_eq_true.2 fun e he => ?_
      have h5 := List.all_eq_true.1 h4 e he
      by_cases h12 : e.s = 12
      · obtain ⟨o0, o1⟩ := hin F hF e he h12
        obtain ⟨q, hq⟩ : ∃ q : Nat, e.o = q := ⟨e.o.toNat, by omega⟩
        obtain ⟨X, hX⟩ : ∃ X, Fs[q]? = some X := ⟨_, List.getElem?_eq_getElem (by omega)⟩
        obtain ⟨Y, hY, m2⟩ := hat q X hX
        rw [takesI_at (by simp [h12]) hq hX] at h5
        rw [takesI_at (by simp [h12]) hq hY, m2.P, m.np]
        exact List.all_eq_true.2 fun t ht => okP_mono m.re (List.all_eq_true.1 h5 t ht)
      · unfold takesI; simp [h12]
end Go.Proofs.YteagkdmefmpokaaDoor
