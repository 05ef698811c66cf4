/- Scope: a function's closures: its parameters. -/
import Derived.Test.YtlenhcmgcgccmaaDoorUk
namespace Go.Proofs.YtlenhcmgcgccmaaDoor
open Go.RowKit Go
set_option linter.unusedVariables false
set_option linter.unusedSimpArgs false
theorem paramsP_len {fn : Nat} : ∀ (l : List Tr) (b : Bk) (o : Out) (x : Bk × Out), paramsP fn l b o = .ok x → x.2.len ≤ o.len + l.length
  | [], b, o, x, h => by injection h with h; subst h; simp
  | t :: l, b, o, x, h => by
    rw [paramsP] at h
    cases h1 : declareP fn t.name t.at_ 3 b o with
    | error c => rw [seqD_err h1] at h; cases h
    | ok y =>
      rw [seqD_ok h1] at h
      have h2 := paramsP_len l y.1 y.2 x h
      have h3 := declareP_len h1
      simp only [List.length_cons]; omega
theorem own_above {w : World} {p B : Nat} {ms : List Nat} {m : Nat} {E : Env} {bs : List Bk} {b : Bk} {o : Out} {R : Rw} (h : WAt w p B (ms ++ [m]) (E.at (bs ++ [b])) o R) (hl : ms.length = bs.length) : MapIs w 9 m (bents b) ∧ B ≤ m := h.inn.maps ms.length m b (by simp) (by simp [Env.at, hl])
set_option maxRecDepth 100000 in
set_option maxHeartbeats 8000000 in
theorem params_calls (w : World) (p B m : Nat) (ms : List Nat) (E : Env) (bs : List Bk) (o : Out) (R : Rw) (l : List Tr) (A : Option Addr) (cap : Nat) (h : WAt w p B (ms ++ [m]) (E.at (bs ++ [[]])) o R) (hlen : bs.length ≤ 2000000) (hk : KidsAt w B (.slice A l.length cap) l) (hvl : o.len + l.length ≤ 2000000)
    (q1 q2 : Nat) (hb1 : Blk w q1 29 #[.slice A l.length cap]) (hb2 : Blk w q2 60 #[.pointer (some ⟨p, 0, none⟩)]) :
    Calls Tryd.prog 60 #[.pointer (some ⟨q1, 0, none⟩), .pointer (some ⟨q2, 0, none⟩)] w (DP w p B ms m E bs R (paramsP E.fn l [] o)) := by
  have hcm : cap ≤ maxLen ∧ l.length ≤ cap := by
    obtain ⟨A', c', e, h1, h2, _⟩ := hk.slice
    injection e with _ _ e; subst e; exact ⟨h2, h1⟩
  have HA := Lib.hid (show 0 < l.length → ∃ b off, A = some ⟨b, off, none⟩ ∧ b < B from by
    obtain ⟨A', c', e, _, _, h⟩ := hk.slice
    injection e with e; subst e; exact h)
  have hcap : (l.length : Int) ≤ 9223372036854775807 := by have := hcm.1; have := hcm.2; simp [maxLen] at *; omega
  have hml : ms.length = bs.length := by have := h.inn.mlen; simpa [Env.at] using this
  have hmB := (own_above h hml).2
  have hmm := (own_above h hml).1
  have nq2 : ¬ (fun y => Ft p R y ∨ y = m) q2 := by
    rintro (e | e)
    · exact h.not_ft hb2 (by decide) e
    · subst e; exact hmm.no_cells hb2
  have c1 := hb1.cell 0
  have c2 := hb2.cell 0
  simp only [List.getElem?_toArray, List.getElem?_cons_zero] at c1 c2
  have HB2 := Lib.hid hb2
  have NQ := Lib.hid nq2
  have HW := Lib.hid h
  have HK := Lib.hid hk
  have HLB := Lib.hid hlen
  have HVL := Lib.hid hvl
  have HMB := Lib.hid hmB
  clear h hk hvl hcm hlen hml hmB hmm hb1 hb2 nq2
  have HUN := Lib.hid (fun (v : World) (f : Fr (fun y => Ft p R y ∨ y = m) w v) => show Below B w v from f.below HW.out.inn.sz (fun b hb e => by
    rcases e with e | e
    · have := (HW.out.ft e).1; omega
    · have := HMB.out; omega))
  go_enter Tryd.func60, Tryd.ntmps60
  go_wp2
  go_loopg [6] l.length (fun fu ix wr => ∃ (j : Nat) (b' : Bk) (o' : Out) (R' : Rw), ix = .int .i64 j ∧ j + fu = l.length ∧ WAt wr p B (ms ++ [m]) (E.at (bs ++ [b'])) o' R' ∧ Fr (fun y => Ft p R y ∨ y = m) w wr ∧ Gr w.heap.size p R R' ∧ paramsP E.fn l [] o = paramsP E.fn (l.drop j) b' o' ∧ o'.len ≤ o.len + j)
  case atStart => exact ⟨0, [], o, R, rfl, by omega, HW.out, Fr.refl _ _, Gr.refl _ _ _, rfl, Nat.le_refl _⟩
  case round =>
    obtain ⟨j, b', o', R', rfl, hf, h1, h2, h3, h4, h5⟩ := hrel
    have H1 := Lib.hid h1
    have H2 := Lib.hid h2
    have H3 := Lib.hid h3
    have H4 := Lib.hid h4
    have H5 := Lib.hid h5
    clear h1 h2 h3 h4 h5
    rcases Nat.lt_or_ge j l.length with hj | hj
    · obtain ⟨k, hkj⟩ : ∃ k, l[j]? = some k := ⟨_, List.getElem?_eq_getElem hj⟩
      obtain ⟨b, off, hAeq, hbB⟩ := HA.out (by omega)
      cases hAeq
      obtain ⟨_, hwf', kv', hN, hKk⟩ := (HK.out.under (HUN.out _ H2.out)).kid hkj
      obtain ⟨d0, d1, d2, d3, d4, d5⟩ := hN.get
      obtain ⟨A', cap', rfl, _, _, _⟩ := hKk.slice
      have hj' : (j : Int) < (l.length : Int) := by omega
      obtain ⟨f', hf'⟩ : ∃ f', gk = f' + 1 := ⟨gk - 1, by omega⟩
      have HF := Lib.hid (And.intro hf hf')
      have hU : Below wr.heap.size wr (wr.alloc (.cells #[.int .i64 k.kind, .int .i64 k.at_, .string k.name, .int .u64 k.num, .string k.op, .slice A' k.kids.length cap'] 31)) := below_alloc (Below.refl _ _)
      have HSt := Lib.hid (show paramsP E.fn l [] o = seqD (declareP E.fn k.name k.at_ 3) (paramsP E.fn (l.drop (j + 1))) b' o' from by rw [H4.out, drop_at' hkj]; rfl)
      have hvl : o'.vars.length ≤ 2000000 := by
        have h1 := H5.out; have h2 := HVL.out; unfold Out.len at *; omega
      have DC := declare_calls (E := E.at (bs ++ [b'])) (bs := bs) (b := b') rfl (H1.out.fr hU) HLB.out hvl k.name hwf'.2 k.at_ 3
      have x2 := H2.out.cel HB2.out NQ.out 0 (u := .pointer (some ⟨p, 0, none⟩)) rfl
      have q2l : q2 < wr.heap.size := Nat.lt_of_lt_of_le HB2.out.lt H2.out.size
      have q2n : wr.heap.size ≠ q2 := by omega
      clear hf hf' hkj hKk hN hwf' hvl
      cases hr : declareP E.fn k.name k.at_ 3 b' o' with
      | error cc =>
        have CC := Lib.hid (DC.mono (R' := fun e w' => e = bad cc ∧ Below B w w') fun e w' hh => ⟨(hh.2 cc hr).1, ((HUN.out _ H2.out).trans (hU.mono H1.out.inn.sz)).trans (hh.2 cc hr).2⟩)
        have HE := Lib.hid (show paramsP E.fn l [] o = .error cc from by rw [HSt.out, seqD_err hr])
        clear hr hU DC
        obtain ⟨e1, e2⟩ := cc
        unfold bad at CC
        go_wp2_with (first | (go_at_call 27; (with_reducible refine CC.out.mono ?_); rintro e v1 ⟨rfl, g1⟩; have G1 := Lib.hid g1; clear g1))
        exact ⟨rfl, DP.err HE.out ⟨rfl, G1.out⟩⟩
      | ok x2 =>
        obtain ⟨b2, o2⟩ := x2
        have CC := Lib.hid (DC.mono (R' := fun e w' => (∃ v, e = .returned v) ∧ ∃ R'', WAt w' p B (ms ++ [m]) (E.at (bs ++ [b2])) o2 R'' ∧ Fr (fun y => Ft p R y ∨ y = m) w w' ∧ Gr w.heap.size p R R'') fun e w' hh => by
          obtain ⟨h1, R'', h2, h3, h4⟩ := hh.1 _ hr
          exact ⟨h1, R'', h2, (H2.out.tr (Fr.of_below hU)).trans h3 (fun b hb => by
            rcases hb with hb | hb
            · rcases H3.out b hb with hb | hb
              · exact .inl (.inl hb)
              · exact .inr hb
            · exact .inl (.inr hb)), H3.out.trans h4 (Nat.le_trans H2.out.size hU.size)⟩)
        have HE := Lib.hid (show paramsP E.fn l [] o = paramsP E.fn (l.drop (j + 1)) b2 o2 from by rw [HSt.out, seqD_ok hr])
        have HL := Lib.hid (declareP_len hr)
        clear hr hU DC
        go_wp2_with (first | (go_at_call 27; (with_reducible refine CC.out.mono ?_); rintro e v1 ⟨⟨v, rfl⟩, R'', g1, g2, g3⟩; have G1 := Lib.hid g1; have G2 := Lib.hid g2; have G3 := Lib.hid g3; clear g1 g2 g3))
        go_roundg f'
        case measure => have := HF.out; omega
        case rel => exact ⟨j + 1, b2, o2, R'', by simp, by have := HF.out; omega, G1.out, G2.out, G3.out, HE.out, by have h1 := H5.out; have h2 : o2.len ≤ o'.len + 1 := HL.out; omega⟩
    · have hjl : j = l.length := by omega
      have hj' : ¬ (j : Int) < (l.length : Int) := by omega
      have HJ := Lib.hid (show l.drop j = [] from List.drop_eq_nil_of_le (by omega))
      have HEnd := Lib.hid (show paramsP E.fn l [] o = .ok (b', o') from by rw [H4.out, HJ.out]; rfl)
      clear hf hjl
      go_wp2
      first | go_end0 | (refine bodyPost_ret (results_none rfl _ _ _) rfl ?_)
      exact DP.ok HEnd.out ⟨⟨_, rfl⟩, R', H1.out, H2.out, H3.out⟩
end Go.Proofs.YtlenhcmgcgccmaaDoor
