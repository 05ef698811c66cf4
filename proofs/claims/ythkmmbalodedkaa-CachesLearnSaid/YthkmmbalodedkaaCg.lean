/- Caches: the document's Learn walked. -/
import Derived.Test.YthkmmbalodedkaaCf
import Derived.Test.YthkmmbalodedkaaCc
namespace Go.Proofs.Ythkmmbalodedkaa
open Go.RowKit Go
set_option linter.unusedVariables false
set_option linter.unusedSimpArgs false
/-- the memory when the document's Learn has laid its arguments. -/
def RW (w : World) (st : Int) (A : Option Addr) (m c : Nat) (e : En) : World :=
  ((w.alloc (.cells #[.int .i64 st, .slice A m c] 24)).alloc (.cells #[.int .i64 e.s, .int .i64 e.h, .int .i64 e.o, .int .i64 e.c] 26)).alloc (.cells #[.int .i64 0, .slice none 0 0] 24)
structure RWf (w W0 : World) (st : Int) (A : Option Addr) (m c : Nat) (e : En) : Prop where
  sz : W0.heap.size = w.heap.size + 3
  bel : Below w.heap.size w W0
  b0 : Blk W0 w.heap.size 24 #[.int .i64 st, .slice A m c]
  b1 : Blk W0 (w.heap.size + 1) 26 e.b
  b3 : Blk W0 (w.heap.size + 2) 24 #[.int .i64 0, .slice none 0 0]
theorem rwf (w : World) (st : Int) (A : Option Addr) (m c : Nat) (e : En) : RWf w (RW w st A m c e) st A m c e := by
  unfold RW
  refine ⟨by simp, (((Below.refl _ _).alloc (Nat.le_refl _) _).alloc (by simp) _).alloc (by simp; omega) _, ?_, ?_, ?_⟩
  · exact ((Blk.new w 24 _).alloc _).alloc _
  · have := ((Blk.new (w.alloc (.cells #[.int .i64 st, .slice A m c] 24)) 26 e.b).alloc (.cells #[.int .i64 0, .slice none 0 0] 24))
    simpa [En.b] using this
  · have := (Blk.new ((w.alloc (.cells #[.int .i64 st, .slice A m c] 24)).alloc (.cells #[.int .i64 e.s, .int .i64 e.h, .int .i64 e.o, .int .i64 e.c] 26)) 24 #[.int .i64 0, .slice none 0 0])
    simpa using this
/-- what the walk reads of its own variables. -/
structure RVars (w w2 : World) (st : Int) (A : Option Addr) (m c : Nat) (e : En) : Prop where
  s : Two w2 w.heap.size (.int .i64 st) (.slice A m c)
  e : Four w2 (w.heap.size + 1) (.int .i64 e.s) (.int .i64 e.h) (.int .i64 e.o) (.int .i64 e.c)
  r : Two w2 (w.heap.size + 1 + 1) (.int .i64 0) (.slice none 0 0)
theorem RWf.vars {w W0 w2 : World} {st : Int} {A : Option Addr} {m c : Nat} {e : En} (h : RWf w W0 st A m c e) (hb : Below W0.heap.size W0 w2) : RVars w w2 st A m c e :=
  ⟨(h.b0.below hb h.b0.lt).two, (h.b1.below hb h.b1.lt).four, (h.b3.below hb h.b3.lt).two⟩
set_option maxRecDepth 100000 in
set_option maxHeartbeats 4000000 in
theorem rlearn_calls (w : World) (st : Int) (A Av : Option Addr) (m c mv cv : Nat) (L : List En) (l : List Int) (e : En) (hv : Reads w w.heap.size 1 Av mv (l.map (Value.int .i64))) (hmv : mv ≤ 140737488351232) (hr : Reads w w.heap.size 4 A m (ef L)) (hm : m * 32 ≤ 140737488351232) :
    Calls Try.prog 15 #[siteV st A m c, e.v, .slice Av mv cv] w (SiteIs w (learn (has l) st L e)) := by
  have hW := rwf w st A m c e
  have hl := reads_len hr
  by_cases hst : st = 3
  · subst hst
    have hln : learn (has l) 3 L e = (3, []) := if_pos rfl
    rw [hln]
    have HB := Lib.hid hW.bel
    unfold siteV En.v RW at *
    clear hW hl hr hln hv
    go_enter Try.func15, Try.ntmps15
    go_wp2
    refine bodyPost_ret (v := siteV 3 none 0 0) (by simp [results, Try.results15, go_sem, siteV]) rfl (nil_site 3 ?_)
    exact (((Below.refl _ _).alloc (Nat.le_refl _) _).alloc (by simp) _).alloc (by simp; omega) _
  · obtain ⟨i26, hi, hz0, hz1, hz2⟩ := info_parts info26
    have hln : learn (has l) st L e = after st (L.filter (fun x => !del (has l) e x) ++ [e]) := if_neg hst
    rw [hln]
    have hstb : (st == 3) = false := by simpa using hst
    have hrd := hr.below hW.bel
    have hvd := (hv.below hW.bel)
    have HR := Lib.hid hrd
    have HV := Lib.hid hvd
    have HL := Lib.hid hl
    obtain ⟨W0, hW0⟩ : ∃ W0, RW w st A m c e = W0 := ⟨_, rfl⟩
    rw [hW0] at hW HR HV
    have HW := Lib.hid hW
    have H0 := Lib.hid hW0
    unfold siteV En.v RW at *
    clear hW hl hr hv hrd hvd hln hst hW0
    have HE1 := Lib.hid (show ∀ u ∈ [Value.int .i64 e.s, .int .i64 e.h, .int .i64 e.o, .int .i64 e.c], u.oneCell' = true by intro u hu; simp at hu; rcases hu with rfl | rfl | rfl | rfl <;> rfl)
    go_enter Try.func15, Try.ntmps15
    go_wp2
    rw [H0.out]
    go_loopg [7, 8] m (fun f v i wr => ∃ (k j : Nat) (M : List En) (v0 : Value), v0 = v ∧ i = .int .i64 k ∧ k + f = m ∧ j ≤ k ∧ M = (L.take k).filter (fun x => !del (has l) e x) ∧ wr.ownsRow W0.heap.size 26 4 v0 j (ef M) ∧ Below W0.heap.size W0 wr)
    case atStart => exact ⟨0, 0, [], _, rfl, rfl, by omega, Nat.le_refl _, rfl, World.ownsRow_nil _ _ _ _, Below.refl _ _⟩
    case round =>
      obtain ⟨k, j, M, v, hvv, rfl, hf, hjk, hM, OW, BW⟩ := hrel
      subst hvv
      obtain ⟨⟨s0, s1, _, _⟩, ⟨x0, x1, x2, x3, _, _, _, _⟩, r0, r1, q0, q1⟩ := HW.out.vars BW
      have hs3 : w.heap.size + 3 ≤ wr.heap.size := by have := BW.size; have := HW.out.sz; omega
      have n0 : w.heap.size < wr.heap.size := by omega
      have n1 : w.heap.size + 1 < wr.heap.size := by omega
      have n2 : w.heap.size + 1 + 1 < wr.heap.size := by omega
      have BWh := Lib.hid BW
      have OWh := Lib.hid OW
      have BWw := Lib.hid (show Below w.heap.size w wr from HW.out.bel.trans (BW.mono HW.out.bel.size))
      by_cases hk : k < m
      · obtain ⟨x, hx⟩ : ∃ x, L[k]? = some x := ⟨_, List.getElem?_eq_getElem (by have := HL.out; omega)⟩
        obtain ⟨b, off, hA, hbl, c0, c1, c2, c3⟩ := reads_at (HR.out.below (BW.mono HW.out.bel.size)) hx
        subst hA
        have hk' : (k : Int) < m := by omega
        obtain ⟨f', hf'⟩ : ∃ f', gk = f' + 1 := ⟨gk - 1, by omega⟩
        have HF' := Lib.hid hf'
        have HF := Lib.hid hf
        have K := in_calls (wr.alloc (.cells #[.int .i64 x.s, .int .i64 x.h, .int .i64 x.o, .int .i64 x.c] 26)) Av mv cv l x.c (((HV.out.below (BW.mono HW.out.bel.size)).alloc BWw.out.size _).more (le_alloc BWw.out.size _)) hmv
        have HX := Lib.hid (show (L.take (k + 1)).filter (fun x => !del (has l) e x) = M ++ (if !del (has l) e x then [x] else []) by
          obtain ⟨h1, h2⟩ := List.getElem?_eq_some_iff.1 hx
          rw [List.take_succ_eq_append_getElem h1, List.filter_append, hM, h2]; congr 1; cases h : del (has l) e x <;> simp [List.filter_cons, h])
        have OA := Lib.hid ((OW.alloc (.cells #[.int .i64 x.s, .int .i64 x.h, .int .i64 x.o, .int .i64 x.c] 26)).alloc (.cells #[.int .i64 x.s, .int .i64 x.h, .int .i64 x.o, .int .i64 x.c] 26))
        have BA := Lib.hid ((BW.alloc BW.size (.cells #[.int .i64 x.s, .int .i64 x.h, .int .i64 x.o, .int .i64 x.c] 26)).alloc (le_alloc BW.size _) (.cells #[.int .i64 x.s, .int .i64 x.h, .int .i64 x.o, .int .i64 x.c] 26))
        have BA1 := Lib.hid ((BW.alloc BW.size (.cells #[.int .i64 x.s, .int .i64 x.h, .int .i64 x.o, .int .i64 x.c] 26)))
        have HE2 := Lib.hid (show ∀ u ∈ [Value.int .i64 x.s, .int .i64 x.h, .int .i64 x.o, .int .i64 x.c], u.oneCell' = true by intro u hu; simp at hu; rcases hu with rfl | rfl | rfl | rfl <;> rfl)
        have hsz1 : (wr.alloc (.cells #[.int .i64 x.s, .int .i64 x.h, .int .i64 x.o, .int .i64 x.c] 26)).heap.size = wr.heap.size + 1 := by simp
        have hrd := Reads_new (wr.alloc (.cells #[.int .i64 x.s, .int .i64 x.h, .int .i64 x.o, .int .i64 x.c] 26)) x
        rw [hsz1] at hrd
        have HRD := Lib.hid hrd
        clear hrd hsz1
        clear hx hf hf' OW BW hM
        obtain ⟨u, hu⟩ : ∃ u, has l x.c = u := ⟨_, rfl⟩
        rw [hu] at K
        have HU := Lib.hid hu
        clear hu
        have hjm : j ≤ 4398046511104 := by omega
        by_cases hs : x.s = e.s
        · have hd : del (has l) e x = true := by unfold del; simp [hs]
          rw [hd] at HX
          have hsb : (x.s == e.s) = true := by simpa using hs
          have hsb2 : (x.s != e.s) = false := by simpa using hs
          clear hd hs
          replace K := Lib.hid K
          go_wp2_with (first | (go_at_call 9; (with_reducible refine K.out.mono ?_); rintro r w1 ⟨rfl, rfl⟩))
          go_roundg f'
          case measure => have := HF'.out; omega
          case rel => exact ⟨k + 1, j, M, _, rfl, by simp, by have := HF'.out; have := HF.out; omega, by omega, by rw [HX.out]; simp, OWh.out.alloc _, BA1.out⟩
        · have hsb : (x.s == e.s) = false := by simpa using hs
          have hsb2 : (x.s != e.s) = true := by simpa using hs
          by_cases hc : x.c = -1
          · have hd : del (has l) e x = false := by unfold del hld; simp [hs, hc]
            rw [hd] at HX
            have hcb : (x.c == -1) = true := by simpa using hc
            clear hd hs hc
            replace K := Lib.hid K
            go_wp2_with (first | (go_at_call 9; (with_reducible refine K.out.mono ?_); rintro r w1 ⟨rfl, rfl⟩) | (at_builtin; refine wpList_append_any _ rfl (.tmp 44) (.tmp 46) 22 rfl _ 26 i26 _ 4 32 Try.underlying22 hi hz0 hz1 hz2 rfl (by decide) _ _ _ rfl OA.out _ _ 1 1 [.int .i64 x.s, .int .i64 x.h, .int .i64 x.o, .int .i64 x.c] rfl HRD.out HE2.out (by unfold maxLen; omega) (by omega) BA.out.size ?_; intro v3 w3 hown hgrow hat; have B3 := Lib.hid (BA.out.grown hgrow BA.out.size (fun k hk => (OA.out.lt k hk).1)); have O3 := Lib.hid hown; clear hown hgrow hat))
            go_roundg f'
            case measure => have := HF'.out; omega
            case rel => exact ⟨k + 1, j + 1, M ++ [x], _, rfl, by simp, by have := HF'.out; have := HF.out; omega, by omega, HX.out.symm, by rw [ef_append]; exact O3.out, B3.out⟩
          · have hcb : (x.c == -1) = false := by simpa using hc
            cases u
            · have hd : del (has l) e x = true := by unfold del hld; rw [HU.out, hcb]; simp
              rw [hd] at HX
              clear hd hs hc
              replace K := Lib.hid K
              go_wp2_with (first | (go_at_call 9; (with_reducible refine K.out.mono ?_); rintro r w1 ⟨rfl, rfl⟩))
              go_roundg f'
              case measure => have := HF'.out; omega
              case rel => exact ⟨k + 1, j, M, _, rfl, by simp, by have := HF'.out; have := HF.out; omega, by omega, by rw [HX.out]; simp, OWh.out.alloc _, BA1.out⟩
            · have hd : del (has l) e x = false := by unfold del hld; rw [HU.out, hcb, hsb]; simp
              rw [hd] at HX
              clear hd hs hc
              replace K := Lib.hid K
              go_wp2_with (first | (go_at_call 9; (with_reducible refine K.out.mono ?_); rintro r w1 ⟨rfl, rfl⟩) | (at_builtin; refine wpList_append_any _ rfl (.tmp 44) (.tmp 46) 22 rfl _ 26 i26 _ 4 32 Try.underlying22 hi hz0 hz1 hz2 rfl (by decide) _ _ _ rfl OA.out _ _ 1 1 [.int .i64 x.s, .int .i64 x.h, .int .i64 x.o, .int .i64 x.c] rfl HRD.out HE2.out (by unfold maxLen; omega) (by omega) BA.out.size ?_; intro v3 w3 hown hgrow hat; have B3 := Lib.hid (BA.out.grown hgrow BA.out.size (fun k hk => (OA.out.lt k hk).1)); have O3 := Lib.hid hown; clear hown hgrow hat))
              go_roundg f'
              case measure => have := HF'.out; omega
              case rel => exact ⟨k + 1, j + 1, M ++ [x], _, rfl, by simp, by have := HF'.out; have := HF.out; omega, by omega, HX.out.symm, by rw [ef_append]; exact O3.out, B3.out⟩
      · have ek : k = m := by omega
        subst ek
        have hjM : j = M.length := by have := OW.1; rw [ef_length] at this; omega
        subst hjM
        rw [List.take_of_length_le (by have := HL.out; omega)] at hM
        rename List En => K
        have hk' : ¬ (k : Int) < k := by omega
        have OA := Lib.hid (OW.alloc (.cells #[.int .i64 e.s, .int .i64 e.h, .int .i64 e.o, .int .i64 e.c] 26))
        have BA := Lib.hid (BW.alloc BW.size (.cells #[.int .i64 e.s, .int .i64 e.h, .int .i64 e.o, .int .i64 e.c] 26))
        have hjm : K.length ≤ 4398046511104 := by omega
        clear OW BW hf hk
        by_cases hA : 4 < (K.length : Int) + 1
        · have hA1 : 1 < (K.length : Int) + 1 := by omega
          have HAF := Lib.hid (show after st (L.filter (fun x => !del (has l) e x) ++ [e]) = ((3 : Int), ([] : List En)) by rw [← hM]; exact after_many st K e hA)
          clear hM
          go_wp2_with (first | (at_builtin; refine wpList_append_any _ rfl (.tmp 48) (.tmp 50) 22 rfl _ 26 i26 _ 4 32 Try.underlying22 hi hz0 hz1 hz2 rfl (by decide) _ _ _ rfl OA.out (wr.heap.size + 1) _ 1 1 [.int .i64 e.s, .int .i64 e.h, .int .i64 e.o, .int .i64 e.c] rfl (Reads_new _ _) HE1.out (by unfold maxLen; omega) (by omega) BA.out.size ?_; intro v3 w3 hown hgrow hat; have B3 := BA.out.grown hgrow BA.out.size (fun k hk => (OA.out.lt k hk).1); obtain ⟨⟨t0, _, _, _⟩, _, g0, g1, p0, p1⟩ := HW.out.vars B3; obtain ⟨A3, c3, rfl, _⟩ := own_slice hown; have R3 := Lib.hid hown; replace B3 := Lib.hid B3; clear hown hgrow hat))
          refine bodyPost_ret (v := siteV 3 none 0 0) (by simp [results, Try.results15, go_sem, siteV, g0, g1]) rfl ?_
          rw [HAF.out]
          refine nil_site 3 ?_
          have hfin := HW.out.bel.trans (B3.out.mono HW.out.bel.size)
          repeat (first | exact hfin | refine Below.setCell ?_ (by show w.heap.size ≤ w.heap.size + 1 + 1; omega) _)
        · by_cases hB : 1 < (K.length : Int) + 1
          · have HAF := Lib.hid (show after st (L.filter (fun x => !del (has l) e x) ++ [e]) = ((2 : Int), K ++ [e]) by rw [← hM]; exact after_two st K e hA hB)
            clear hM
            go_wp2_with (first | (at_builtin; refine wpList_append_any _ rfl (.tmp 48) (.tmp 50) 22 rfl _ 26 i26 _ 4 32 Try.underlying22 hi hz0 hz1 hz2 rfl (by decide) _ _ _ rfl OA.out (wr.heap.size + 1) _ 1 1 [.int .i64 e.s, .int .i64 e.h, .int .i64 e.o, .int .i64 e.c] rfl (Reads_new _ _) HE1.out (by unfold maxLen; omega) (by omega) BA.out.size ?_; intro v3 w3 hown hgrow hat; have B3 := BA.out.grown hgrow BA.out.size (fun k hk => (OA.out.lt k hk).1); obtain ⟨⟨t0, _, _, _⟩, _, g0, g1, p0, p1⟩ := HW.out.vars B3; obtain ⟨A3, c3, rfl, _⟩ := own_slice hown; have R3 := Lib.hid hown; replace B3 := Lib.hid B3; clear hown hgrow hat))
            refine bodyPost_ret (v := siteV 2 A3 (K.length + 1) c3) (by simp [results, Try.results15, go_sem, siteV, g0, g1]) rfl ?_
            rw [HAF.out]
            refine ⟨A3, c3, by simp, ?_, by simp; omega, ?_⟩
            · simp only [List.length_append, List.length_singleton, ef_append]
              exact site_end (e := e) R3.out (by have := HW.out.sz; omega) (by have := HW.out.sz; omega)
            · have hfin := HW.out.bel.trans (B3.out.mono HW.out.bel.size)
              repeat (first | exact hfin | refine Below.setCell ?_ (by show w.heap.size ≤ w.heap.size + 1 + 1; omega) _)
          · cases hs2 : (st == 2)
            · have HAF := Lib.hid (show after st (L.filter (fun x => !del (has l) e x) ++ [e]) = ((1 : Int), K ++ [e]) by rw [← hM]; exact after_one st K e hB hs2)
              clear hM
              go_wp2_with (first | (at_builtin; refine wpList_append_any _ rfl (.tmp 48) (.tmp 50) 22 rfl _ 26 i26 _ 4 32 Try.underlying22 hi hz0 hz1 hz2 rfl (by decide) _ _ _ rfl OA.out (wr.heap.size + 1) _ 1 1 [.int .i64 e.s, .int .i64 e.h, .int .i64 e.o, .int .i64 e.c] rfl (Reads_new _ _) HE1.out (by unfold maxLen; omega) (by omega) BA.out.size ?_; intro v3 w3 hown hgrow hat; have B3 := BA.out.grown hgrow BA.out.size (fun k hk => (OA.out.lt k hk).1); obtain ⟨⟨t0, _, _, _⟩, _, g0, g1, p0, p1⟩ := HW.out.vars B3; obtain ⟨A3, c3, rfl, _⟩ := own_slice hown; have R3 := Lib.hid hown; replace B3 := Lib.hid B3; clear hown hgrow hat))
              refine bodyPost_ret (v := siteV 1 A3 (K.length + 1) c3) (by simp [results, Try.results15, go_sem, siteV, g0, g1]) rfl ?_
              rw [HAF.out]
              refine ⟨A3, c3, by simp, ?_, by simp; omega, ?_⟩
              · simp only [List.length_append, List.length_singleton, ef_append]
                exact site_end (e := e) R3.out (by have := HW.out.sz; omega) (by have := HW.out.sz; omega)
              · have hfin := HW.out.bel.trans (B3.out.mono HW.out.bel.size)
                repeat (first | exact hfin | refine Below.setCell ?_ (by show w.heap.size ≤ w.heap.size + 1 + 1; omega) _)
            · have HAF := Lib.hid (show after st (L.filter (fun x => !del (has l) e x) ++ [e]) = ((2 : Int), K ++ [e]) by rw [← hM]; exact after_few st K e hB hs2)
              clear hM
              go_wp2_with (first | (at_builtin; refine wpList_append_any _ rfl (.tmp 48) (.tmp 50) 22 rfl _ 26 i26 _ 4 32 Try.underlying22 hi hz0 hz1 hz2 rfl (by decide) _ _ _ rfl OA.out (wr.heap.size + 1) _ 1 1 [.int .i64 e.s, .int .i64 e.h, .int .i64 e.o, .int .i64 e.c] rfl (Reads_new _ _) HE1.out (by unfold maxLen; omega) (by omega) BA.out.size ?_; intro v3 w3 hown hgrow hat; have B3 := BA.out.grown hgrow BA.out.size (fun k hk => (OA.out.lt k hk).1); obtain ⟨⟨t0, _, _, _⟩, _, g0, g1, p0, p1⟩ := HW.out.vars B3; obtain ⟨A3, c3, rfl, _⟩ := own_slice hown; have R3 := Lib.hid hown; replace B3 := Lib.hid B3; clear hown hgrow hat))
              refine bodyPost_ret (v := siteV 2 A3 (K.length + 1) c3) (by simp [results, Try.results15, go_sem, siteV, g0, g1]) rfl ?_
              rw [HAF.out]
              refine ⟨A3, c3, by simp, ?_, by simp; omega, ?_⟩
              · simp only [List.length_append, List.length_singleton, ef_append]
                exact site_end (e := e) R3.out (by have := HW.out.sz; omega) (by have := HW.out.sz; omega)
              · have hfin := HW.out.bel.trans (B3.out.mono HW.out.bel.size)
                repeat (first | exact hfin | refine Below.setCell ?_ (by show w.heap.size ≤ w.heap.size + 1 + 1; omega) _)
end Go.Proofs.Ythkmmbalodedkaa
