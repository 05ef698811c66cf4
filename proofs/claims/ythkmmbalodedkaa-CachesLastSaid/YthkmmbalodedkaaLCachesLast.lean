/- For every site and every entry the call of CachesLast returns true, and its arguments read as before; no condition. -/
import Derived.Test.YthkmmbalodedkaaCk
import Derived.IntWalk
import Derived.Test.YthkmmbalodedkaaRows
import Derived.ProofKit
import Derived.OpenShut
import Derived.Carry
import Derived.JoinedOf
import Derived.SizedLaws
namespace Go.Proofs.Ythkmmbalodedkaa.cachesLast
open Go.ChangeShapes Go.WideShapes Go.ChangeAt Go.RowKit Go.Deep Go
set_option linter.unusedSimpArgs false
set_option linter.unusedVariables false
/-- what is kept. -/
def keep (L : List En) (e : En) : List En := L.filter (fun x => !(x.s == e.s))
theorem learn_keep (st : Int) (L : List En) (e : En) : learn yes st L e = (3, []) ∨ ∃ st', (st' == 3) = false ∧ learn yes st L e = (st', keep L e ++ [e]) := by
  have hf : L.filter (fun y => !del yes e y) = keep L e := by
    unfold keep
    congr 1
    funext y
    unfold del
    rw [hld_yes]; simp
  unfold learn
  rw [hf]
  split
  · exact .inl rfl
  · unfold after
    split
    · exact .inl rfl
    · split
      · exact .inr ⟨2, rfl, rfl⟩
      · exact .inr ⟨1, rfl, rfl⟩
theorem site_len {w w' : World} {st : Int} {F : List En} {e : En} {n : Nat} {r : Ending} (h : SiteIs w (st, F ++ [e]) r w') (hn : F.length = n) :
    ∃ g c, r = .returned (siteV st (some ⟨g, 0, none⟩) (n + 1) c) ∧ w'.ownsRow w.heap.size 26 4 (.slice (some ⟨g, 0, none⟩) (n + 1) c) (n + 1) (ef (F ++ [e])) ∧ n + 1 ≤ 4 ∧ Below w.heap.size w w' := by
  obtain ⟨A, c, h1, h2, h3, h4⟩ := h
  have e : (F ++ [e]).length = n + 1 := by simp [hn]
  simp only [e] at h1 h2 h3
  obtain ⟨g, cap, h5, _⟩ := h2.form (by omega)
  injection h5 with h5 _ h6
  subst h5 h6
  exact ⟨g, c, h1, h2, h3, h4⟩
theorem keep_take {L : List En} {e x : En} {j : Nat} (hx : L[j]? = some x) : keep (L.take (j + 1)) e = if x.s == e.s then keep (L.take j) e else keep (L.take j) e ++ [x] := by
  obtain ⟨h1, h2⟩ := List.getElem?_eq_some_iff.1 hx
  unfold keep
  rw [List.take_succ_eq_append_getElem h1, List.filter_append, h2]
  cases hb : (x.s == e.s) <;> simp [List.filter_cons, hb]
theorem keep_at {L : List En} {e x : En} {j : Nat} (hx : L[j]? = some x) (hb : (x.s == e.s) = false) : (keep L e ++ [e])[(keep (L.take j) e).length]? = some x ∧ (keep (L.take j) e).length < (keep L e).length := by
  have h : keep L e = keep (L.take j) e ++ x :: keep (L.drop (j + 1)) e := by
    conv => lhs; rw [← List.take_append_drop j L, drop_at hx]
    unfold keep
    rw [List.filter_append, List.filter_cons, hb]; rfl
  rw [h]
  exact ⟨by simp, by simp⟩
set_option maxRecDepth 100000 in
set_option maxHeartbeats 4000000 in
theorem walk (w : World) (st : Int) (A : Option Addr) (m c : Nat) (L : List En) (e : En) (hr : Reads w w.heap.size 4 A m (ef L)) (hm : m * 32 ≤ 140737488351232) :
    Calls Try.prog 7 #[siteV st A m c, e.v] w fun r w' => r = .returned (.bool true) ∧ Below w.heap.size w w' := by
  have hl := reads_len hr
  have AL := Lib.hid alive15
  have B0 : Below w.heap.size w ((w.alloc (.cells #[.int .i64 st, .slice A m c] 24)).alloc (.cells #[.int .i64 e.s, .int .i64 e.h, .int .i64 e.o, .int .i64 e.c] 26)) := ((Below.refl _ _).alloc (Nat.le_refl _) _).alloc (by simp) _
  have K := learn_calls _ st A m c L e 20 #[] yes (asks20 _) ((hr.below B0).more B0.size) hm
  have b1 : Blk ((w.alloc (.cells #[.int .i64 st, .slice A m c] 24)).alloc (.cells #[.int .i64 e.s, .int .i64 e.h, .int .i64 e.o, .int .i64 e.c] 26)) w.heap.size 24 #[.int .i64 st, .slice A m c] := (Blk.new w _ _).alloc _
  have b2 : Blk ((w.alloc (.cells #[.int .i64 st, .slice A m c] 24)).alloc (.cells #[.int .i64 e.s, .int .i64 e.h, .int .i64 e.o, .int .i64 e.c] 26)) (w.heap.size + 1) 26 #[.int .i64 e.s, .int .i64 e.h, .int .i64 e.o, .int .i64 e.c] := by
    have := Blk.new (w.alloc (.cells #[.int .i64 st, .slice A m c] 24)) 26 e.b
    simpa [En.b] using this
  have HB0 := Lib.hid B0
  have HR := Lib.hid hr
  have HL := Lib.hid hl
  have HB1 := Lib.hid b1
  have HB2 := Lib.hid b2
  rcases learn_keep st L e with h3 | ⟨st', hst', h3⟩
  · rw [h3] at K
    unfold siteV En.v at *
    replace K := Lib.hid K
    clear h3 hl hr B0 b1 b2
    go_enter Try.func7, Try.ntmps7
    go_wp2_with (first | (go_at_call 14; (with_reducible refine K.out.mono ?_); rintro r w1 ⟨A1, c1, rfl, ho1, hl1, hb1⟩; unfold siteV; have HB3 := Lib.hid (HB0.out.trans (hb1.mono HB0.out.size)); have HN := Lib.hid (fun w2 (h : Below (w1.alloc (.cells #[.int .i64 3, .slice A1 0 c1] 24)).heap.size (w1.alloc (.cells #[.int .i64 3, .slice A1 0 c1] 24)) w2) => ((Blk.new w1 24 #[.int .i64 3, .slice A1 0 c1]).below h (Blk.new w1 _ _).lt).two); clear ho1 hl1 hb1) | (go_at_call 12; refine (AL.out _).mono ?_; rintro r w2 ⟨rfl, hb2⟩; obtain ⟨q0, q1, p0, p1⟩ := HN.out w2 hb2))
    go_ret
    exact ⟨rfl, (below_alloc HB3.out _).trans (hb2.mono (below_alloc HB3.out _).size)⟩
  · rw [h3] at K
    obtain ⟨n, hn⟩ : ∃ n, (keep L e).length = n := ⟨_, rfl⟩
    have K := K.mono fun r w' h => site_len h hn
    have HN := Lib.hid hn
    have hne := neq_en e e
    rw [decide_eq_true rfl] at hne
    have hg := fun op x y xs ys w => run_guard26 op x y xs ys w
    unfold siteV En.v at *
    replace K := Lib.hid K
    have HFe := Lib.hid (show (keep L e ++ [e])[n]? = some e by rw [← hn]; simp)
    clear h3 hl hr B0 b1 b2 hn
    go_enter Try.func7, Try.ntmps7
    go_wp2_with (first | (go_at_call 14; (with_reducible refine K.out.mono ?_); rintro r w1 ⟨g, c1, rfl, ho1, hl1, hb1⟩; have HB3 := Lib.hid (HB0.out.trans (hb1.mono HB0.out.size)); have HV1 := Lib.hid (HB1.out.below hb1 HB1.out.lt); have HV2 := Lib.hid (HB2.out.below hb1 HB2.out.lt); have HO := Lib.hid ho1; clear ho1 hb1))
    obtain ⟨x0, x1, x2, x3, _, _, _, _⟩ := HV2.out.four
    obtain ⟨s0, s1, _, _⟩ := HV1.out.two
    obtain ⟨y0, y1, y2, y3, _, _, _, _⟩ := own_at HO.out HFe.out
    have l0 := HV1.out.lt
    have l1 := HV2.out.lt
    have l2 := (HO.out.lt g rfl).2
    have u1 : IntKind.i64.wrap ((n : Int) + 1 - 1) = n := by rw [show (n : Int) + 1 - 1 = n by omega]; exact IntWalk.i64_in _ (by omega)
    have u5 : IntKind.i64.wrap (n : Int) = n := IntWalk.i64_in _ (by omega)
    have u6 : ((n : Int) + 1 == 0) = false := beq_eq_false_iff_ne.2 (by omega)
    have u2 : (n : Int).toNat = n := by simp
    have u3 : (0 : Int) ≤ n := by omega
    have u4 : (n : Int) < (n : Int) + 1 := by omega
    go_quiet (fail)
    go_wp2
    clear x0 x1 x2 x3 s0 s1 y0 y1 y2 y3 hne
    have HW2 := Lib.hid (Blk.drewN (Blk.new w1 24 #[.int .i64 st', .slice (some ⟨g, 0, none⟩) (n + 1) c1]) nq)
    have hw12 : Below w1.heap.size w1 ((w1.alloc (.cells #[.int .i64 st', .slice (some ⟨g, 0, none⟩) (n + 1) c1] 24)).drewN nq) := below_drewN ((Below.refl _ _).alloc (Nat.le_refl _) _) nq
    have HW12 := Lib.hid hw12
    have hszW : ((w1.alloc (.cells #[.int .i64 st', .slice (some ⟨g, 0, none⟩) (n + 1) c1] 24)).drewN nq).heap.size = w1.heap.size + 1 := by simp [World.drewN]
    obtain ⟨W2, hW2⟩ : ∃ W2, (w1.alloc (.cells #[.int .i64 st', .slice (some ⟨g, 0, none⟩) (n + 1) c1] 24)).drewN nq = W2 := ⟨_, rfl⟩
    rw [hW2] at HW2 HW12 hw12 hszW
    rw [hW2]
    have HS2 := Lib.hid hszW
    clear hW2 hw12 hszW
    go_loopg [7, 43] m (fun f at' i wr => ∃ j : Nat, i = .int .i64 j ∧ j + f = m ∧ at' = .int .i64 ((keep (L.take j) e).length : Nat) ∧ Below W2.heap.size W2 wr)
    case atStart => exact ⟨0, rfl, by omega, by simp [keep], Below.refl _ _⟩
    case round =>
      obtain ⟨j, rfl, hf, rfl, hB⟩ := hrel
      have hB1 : Below w1.heap.size w1 wr := HW12.out.trans (hB.mono (by have := HS2.out; omega))
      obtain ⟨x0, x1, x2, x3, _, _, _, _⟩ := (HV2.out.below hB1 HV2.out.lt).four
      obtain ⟨s0, s1, _, _⟩ := (HW2.out.below hB HW2.out.lt).two
      have OW := Lib.hid (own_below hB1 HO.out)
      have HBW := Lib.hid (HB3.out.trans (hB1.mono HB3.out.size))
      have hlw : w1.heap.size + 1 ≤ wr.heap.size := by have := hB.size; have := HS2.out; omega
      have q1 : w.heap.size + 1 < wr.heap.size := by omega
      have q2 : w1.heap.size < wr.heap.size := by omega
      have q3 : g < wr.heap.size := by omega
      have HBh := Lib.hid hB
      by_cases hj : j < m
      · obtain ⟨x, hx⟩ : ∃ x, L[j]? = some x := ⟨_, List.getElem?_eq_getElem (by have := HL.out; omega)⟩
        obtain ⟨b, off, hA, hbl, c0, c1, c2, c3⟩ := reads_at (HR.out.below (HB3.out.trans (hB1.mono HB3.out.size))) hx
        subst hA
        have hj' : (j : Int) < m := by omega
        obtain ⟨f', hf'⟩ : ∃ f', gk = f' + 1 := ⟨gk - 1, by omega⟩
        have HF' := Lib.hid hf'
        have HF := Lib.hid hf
        have HK := Lib.hid (keep_take (e := e) hx)
        have HA := Lib.hid (HBh.out.trans ((Below.refl wr.heap.size wr).alloc (Nat.le_refl _) (.cells #[.int .i64 x.s, .int .i64 x.h, .int .i64 x.o, .int .i64 x.c] 26) |>.mono HBh.out.size))
        cases hb : (x.s == e.s)
        · obtain ⟨k1, k2⟩ := keep_at hx hb
          rw [hb] at HK
          rw [HN.out] at k2
          obtain ⟨a, ha⟩ : ∃ a, (keep (L.take j) e).length = a := ⟨_, rfl⟩
          rw [ha] at k1 k2
          rw [ha]
          have HAa := Lib.hid ha
          obtain ⟨z0, z1, z2, z3, _, _, _, _⟩ := own_at OW.out k1
          have v1 : (a : Int).toNat = a := by simp
          have v3 : (0 : Int) ≤ a := by omega
          have v4 : (a : Int) < (n : Int) + 1 := by omega
          have v5 : ¬ (a : Int) ≥ n := by omega
          have v6 : decide ((n : Int) ≤ a) = false := by simp; omega
          have v7 : (a : Int) < n := by omega
          have hne := neq_en x x
          rw [decide_eq_true rfl] at hne
          have hxs : ¬ x.s = e.s := by simpa using hb
          clear hx hf hf' hB hB1 k1 ha hj
          go_wp2
          go_quiet (fail)
          go_wp2
          go_roundg f'
          case measure => have := HF'.out; omega
          case rel => exact ⟨j + 1, by simp, by have := HF'.out; have := HF.out; omega, by rw [HK.out]; simp [HAa.out], below_drewN HA.out _⟩
        · rw [hb] at HK
          have hxs : x.s = e.s := by simpa using hb
          rw [hxs] at c0
          have HXS := Lib.hid hxs
          rw [hxs] at HA
          clear hx hf hf' hB hB1 hj hb hxs
          go_wp2
          go_roundg f'
          case measure => have := HF'.out; omega
          case rel => exact ⟨j + 1, by simp, by have := HF'.out; have := HF.out; omega, by rw [HK.out]; rfl, HA.out⟩
      · have hjm : j = m := by omega
        have hj' : ¬ (j : Int) < m := by omega
        have hkn : (keep (L.take j) e).length = n := by rw [List.take_of_length_le (by have := HL.out; omega), HN.out]
        rw [hkn]
        have HFin := Lib.hid (fun w2 (h : Below wr.heap.size wr w2) => ((HW2.out.below hB HW2.out.lt).below h (HW2.out.below hB HW2.out.lt).lt).two)
        clear hB hB1 hf hkn s0 s1 x0 x1 x2 x3 hjm hj
        go_wp2_with (first | (go_at_call 12; refine (AL.out _).mono ?_; rintro r w2 ⟨rfl, hb2⟩; obtain ⟨q0, q1, p0, p1⟩ := HFin.out w2 hb2))
        go_ret
        exact ⟨rfl, below_via HBW.out hb2⟩
theorem call {H : Type} {enc : TypeId × Value → H} {W : World} {base : Nat} {v0 : Value} {d0 : DataW H} {p0 : List MemPlace} {v1 : Value} {d1 : DataW H} {p1 : List MemPlace}
    (o0 : Value.okWide Try.prog W .any base 24 v0) (h0 : DataW.Trod enc Try.prog W 0 (fun _ => true) true 24 v0 d0 p0) (o1 : Value.okWide Try.prog W .any base 26 v1) (h1 : DataW.Trod enc Try.prog W 0 (fun _ => true) true 26 v1 d1 p1) (z0 : ∀ n ∈ d0.weights Try.prog 24, n ≤ reachBytes) (z1 : ∀ n ∈ d1.weights Try.prog 26, n ≤ reachBytes) :
    Calls Try.prog 7 #[v0, v1] W fun e w' => e = .returned (.bool true) ∧ Below W.heap.size W w' := by
  obtain ⟨st, A, n, c, L, rfl, hr, hm⟩ := open_site o0 h0 z0
  obtain ⟨e, rfl⟩ := open_entry o1 h1
  exact walk W st A n c L e hr hm
theorem own : ownKnob Try.prog.godebug = none := by kernel_rfl
theorem laidOut : laidOutB Try.prog = true := by kernel_rfl
set_option maxHeartbeats 0 in
/-- what the walk gives. -/
theorem contract (H : Type) (enc : TypeId × Value → H) (W : World) (base : Nat) (args : Array Value) (ds gs : List (DataW H)) (before : List MemPlace)
    (hval : ∀ (j : Nat) t v, Try.f7.params[j]? = some t → args[j]? = some v → Value.okWide Try.prog W .any base t v)
    (hW : DataW.Whole enc Try.prog Try.f7.params.toList Rows.cachesLastSpec.vars false W args.toList ds gs before) (hsz : (DataW.weightsEach Try.prog (Try.f7.params.toList ++ Rows.cachesLastSpec.plain.varTypes Try.prog) (ds ++ gs)).all (· ≤ reachBytes) = true) :
    Calls Try.prog 7 args W fun e W' => ∃ v, e = .returned v ∧ Rows.cachesLastSpec.post enc Try.prog Try.f7 false true false false W args v W' := by
  have hW' := hW
  obtain ⟨p, q, hA0, hV, rfl, hfz, hnd⟩ := hW
  have hA : DataW.TrodAll enc Try.prog W 0 (fun _ => true) true Try.f7.params.toList args.toList ds p := hA0
  rw [Try.params7] at hA hval hsz
  obtain ⟨v0, vs0, d0, ds0, p0, q0, hargs, rfl, rfl, h0, r0⟩ := trodAll_cons hA
  obtain ⟨v1, vs1, d1, ds1, p1, q1, rfl, rfl, rfl, h1, r1⟩ := trodAll_cons r0
  obtain ⟨rfl, rfl, rfl⟩ := trodAll_nil r1
  obtain rfl : args = #[v0, v1] := by cases args; simp_all
  obtain ⟨rfl, rfl⟩ := trodVars_none hV
  clear hA0
  simp only [List.append_nil] at hW'
  have lt0 : ∀ x ∈ p0, x.block < W.heap.size := fun x hx => hW'.lt x (by simp [hx])
  have lt1 : ∀ x ∈ p1, x.block < W.heap.size := fun x hx => hW'.lt x (by simp [hx])
  refine (call (hval 0 24 v0 rfl rfl) h0 (hval 1 26 v1 rfl rfl) h1 (fun n hn => by have := List.all_eq_true.1 hsz n (DataW.weights_mem_each (j := 0) (t := 24) rfl rfl n hn); simpa using this) (fun n hn => by have := List.all_eq_true.1 hsz n (DataW.weights_mem_each (j := 1) (t := 26) rfl rfl n hn); simpa using this)).mono fun e W' ⟨he, bel⟩ => ?_
  subst he
  exact ⟨_, rfl, _, _, _, [], _, [], hW', (trodAll_cons_mk (shut_bool Try.underlying4 _) trodAll_mk0), (trodAll_cons_mk (Below.trod laidOut (by kernel_rfl) (of_decide_eq_true (by kernel_rfl)) h0 bel lt0) (trodAll_cons_mk (Below.trod laidOut (by kernel_rfl) (of_decide_eq_true (by kernel_rfl)) h1 bel lt1) trodAll_mk0)), rfl, bel.frame _, fun h => by cases h⟩
set_option maxRecDepth 100000 in
theorem lifted (os : Os) (started : os.Started) (H : Type) (enc : TypeId × Value → H) :
    ReturnsInHanded {} Try.checked os 7 .any (Rows.cachesLastSpec.pre6 enc Try.prog Try.f7 Rows.cachesLastRow.domain false) (Rows.cachesLastSpec.post enc Try.prog Try.f7 false true false false) := by
  refine returnsInHanded_of_change_sized (C := Try.checked) own started (by kernel_rfl) Try.func7
    (ChangeSpec.witness6 (enc := enc) (C := Try.checked) false ⟨#[], #[.agg #[.int .i64 0, .slice none 0 0], .agg #[.int .i64 0, .int .i64 0, .int .i64 0, .int .i64 0]], []⟩ 8 (by kernel_rfl) (by kernel_rfl) (by kernel_rfl) (by kernel_rfl)) ?_
  intro W base args ds gs before hval0 hW hcnd hsz _
  exact contract H enc W base args ds gs before hval0 hW hsz
set_option maxHeartbeats 0 in
theorem over : Rows.cachesLastRow.holds Try.pinned (OpenSpec.ofChange Rows.cachesLastSpec) :=
  OpenClaim.holds_of_wide 7 Try.f7 rfl rfl rfl rfl rfl rfl rfl ⟨rfl, rfl, rfl, rfl, rfl⟩ rfl rfl rfl rfl rfl (by as_aux_lemma => kernel_rfl) Try.func7 (by as_aux_lemma => kernel_rfl)
    (of_decide_eq_true (by as_aux_lemma => kernel_rfl)) (by as_aux_lemma => unfold Func.isWrapper; first | (rw [if_pos (by decide +kernel)]; kernel_rfl) | (rw [if_neg (by decide +kernel)]; exact ⟨rfl, rfl⟩))
    (fun os started H enc _ => lifted os started H enc)
theorem proved : Rows.CachesLastSaid :=
  over
#print axioms proved
end Go.Proofs.Ythkmmbalodedkaa.cachesLast
namespace Go.Proofs.Ythkmmbalodedkaa
theorem cachesLast_holds : Rows.CachesLastSaid := cachesLast.proved
end Go.Proofs.Ythkmmbalodedkaa
