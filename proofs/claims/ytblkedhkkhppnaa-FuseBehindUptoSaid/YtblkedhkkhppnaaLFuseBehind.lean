/- For every function and every slice of instructions of bulk at most 1048576 the call of FuseBehind returns true, and its arguments read as before. -/
import Derived.Test.YtblkedhkkhppnaaDr
import Derived.Test.YtblkedhkkhppnaaRows
import Derived.ProofKit
import Derived.OpenShut
import Derived.Carry
import Derived.JoinedCond
namespace Go.Proofs.Ytblkedhkkhppnaa.fuseBehind
open Go.ChangeShapes Go.WideShapes Go.ChangeAt Go.RowKit Go.Deep Go
set_option linter.unusedSimpArgs false
set_option linter.unusedVariables false
theorem bag4_first {w w1 : World} {v' : Value} {m : Nat} {C : List En} (hg : w.grownBy w1 (Value.slice none 0 0).ownBlock) (ho : w1.ownsRow w.heap.size 38 4 v' (0 + m) ([] ++ ef C)) : Bag4 w w1 v' m C := by
  have := (Bag4.none_ w).grow (l' := C) hg ho
  simpa using this
theorem below_set {w w1 wr : World} {v : Value} (h : Below w.heap.size w w1) (k : Below w1.heap.size w1 wr) : Below w.heap.size w (wr.setCell ⟨w1.heap.size, 4, none⟩ v) := (below_via h k).setCell (p := ⟨w1.heap.size, 4, none⟩) h.size v
theorem calm_take {M : List En} {k : Nat} {e : En} (hx : M[k]? = some e) : (M.take (k + 1)).filter calm = (M.take k).filter calm ++ (if calm e = true then [e] else []) := by
  rw [take_at hx, List.filter_append]
  congr 1
  cases h : calm e <;> simp [List.filter_cons, h]
set_option maxRecDepth 100000 in
set_option maxHeartbeats 8000000 in
theorem walk (w : World) (h : Hd) (C M : List En) (T : List Tr) (A : Option Addr) (m c : Nat) (hi : h.Is w C T) (hcc : h.nc ≤ h.cc) (hmx : h.cc ≤ 9223372036854775807) (hn : h.nc ≤ 1048576) (hr : Reads w w.heap.size 4 A m (ef M)) (hm : m ≤ 1048576) :
    Calls Try.prog 5 #[h.v, .slice A m c] w fun e w' => e = .returned (.bool true) ∧ Below w.heap.size w w' := by
  obtain ⟨i38, hi3, hz0, hz1, hz2⟩ := info_parts info38
  have B0 := Lib.hid (below_new w (.cells h.b 27))
  have K1 := groups_calls (h.box w) h C T (hi.later B0.out) hcc hmx
  have HALL := Lib.hid (fun (wr : World) (b : Below (h.box w).heap.size (h.box w) wr) => Hd.eight (h.all b))
  have hl := reads_len hi.code
  have hlm := reads_len hr
  have HL := Lib.hid hl
  have HLM := Lib.hid hlm
  have HI := Lib.hid hi
  have HR := Lib.hid hr
  have HE1 := Lib.hid (ef_one C)
  have AL := Lib.hid alive10
  unfold Hd.v at *
  unfold Hd.box Hd.b at K1
  replace K1 := Lib.hid K1
  clear hi hl hlm hr
  go_enter Try.func5, Try.ntmps5
  go_upto_region 5 with (first | (go_at_call 7; (with_reducible refine K1.out.mono ?_); rintro r w1 ⟨A1, n1, c1, rfl, hrd, hb1⟩; obtain ⟨i0, i1, i2, i3, i4, i5, i6, i7, ilt⟩ := HALL.out w1 hb1; have HR1 := Lib.hid hrd; have HB1 := Lib.hid hb1; clear hrd hb1) | (at_builtin; (refine wpList_append_any _ rfl (.tmp 15) (.tmp 17) 22 rfl (h.box w1).heap.size 38 i38 _ 4 32 Try.underlying22 hi3 hz0 hz1 hz2 rfl (by decide) _ 0 [] rfl (World.ownsRow_nil _ _ _ _) _ h.Ac h.nc h.cc (ef C) rfl ((HI.out.later (below_via B0.out (below_via HB1.out (below_new _ _)))).code) HE1.out (by unfold maxLen; omega) (by omega) (Nat.le_refl _) ?_; intro v1 w2 hown hgrow _; have M1 := Lib.hid (bag4_first hgrow hown); obtain ⟨A2, c2, rfl, _⟩ := own_slice hown; clear hown hgrow)))
  clear i0 i1 i2 i3 i4 i5 i6 i7 ilt
  go_wp2
  go_loopg [7, 21] m (fun f l i wr => ∃ (k n : Nat) (A : Option Addr) (c : Nat), i = .int .i64 k ∧ l = .slice A n c ∧ k + f = m ∧ n ≤ h.nc + k ∧ Bag4 (h.box w1) wr (.slice A n c) n (C ++ (M.take k).filter calm))
  case atStart => exact ⟨0, h.nc, A2, c2, rfl, rfl, by omega, by omega, by rw [List.take_zero, List.filter_nil, List.append_nil]; have hq := M1.out; rw [Nat.zero_add] at hq; exact hq⟩
  case round =>
    obtain ⟨k, n, A3, c3, rfl, rfl, hf, hnk, hB⟩ := hrel
    have HB := Lib.hid hB
    have HF := Lib.hid hf
    by_cases hk : k < m
    · obtain ⟨e, hx⟩ : ∃ e, M[k]? = some e := ⟨_, List.getElem?_eq_getElem (by have := HLM.out; omega)⟩
      obtain ⟨b, off, hA, hbl, c0, c1', c2', c3'⟩ := reads_at ((HR.out.below (below_via B0.out (below_via HB1.out (below_via (below_new _ _) hB.bel)))).more (below_via B0.out (below_via HB1.out (below_via (below_new _ _) hB.bel))).size) hx
      subst hA
      have hk' : (k : Int) < m := by omega
      obtain ⟨f', hf'⟩ : ∃ f', gk = f' + 1 := ⟨gk - 1, by omega⟩
      have HF' := Lib.hid hf'
      have HT := Lib.hid (calm_take hx)
      have HN := Lib.hid (hB.later (below_new wr (.cells #[.int .i64 e.s, .int .i64 e.h, .int .i64 e.o, .int .i64 e.c] 38)))
      have ro := Lib.hid (HN.out.later (below_new _ (.cells #[.int .i64 e.s, .int .i64 e.h, .int .i64 e.o, .int .i64 e.c] 38))).own
      rcases jmp_cases e with ⟨b1, b2, b3, _⟩ | ⟨b1, b2, b3, _⟩ | ⟨b1, b2, b3, _⟩ | ⟨b1, b2, b3, _⟩
      all_goals
        have hcalm : calm e = (!(e.s == 57) && !(e.s == 58) && !(e.s == 59)) := rfl
        rw [b1, b2, b3] at hcalm
        have HCALM := Lib.hid hcalm
        have d1 : (e.s != 57) = !(e.s == 57) := rfl
        have d2 : (e.s != 58) = !(e.s == 58) := rfl
        have d3 : (e.s != 59) = !(e.s == 59) := rfl
        rw [b1] at d1
        rw [b2] at d2
        rw [b3] at d3
        simp only [Bool.not_true, Bool.not_false] at d1 d2 d3
        clear hx hf hf' hB hcalm
      · go_wp2
        go_roundg f'
        case measure => have := HF'.out; omega
        case rel => exact ⟨k + 1, n, A3, c3, by simp, rfl, by have := HF'.out; have := HF.out; omega, by omega, by rw [HT.out, HCALM.out]; simpa using HN.out⟩
      · go_wp2
        go_roundg f'
        case measure => have := HF'.out; omega
        case rel => exact ⟨k + 1, n, A3, c3, by simp, rfl, by have := HF'.out; have := HF.out; omega, by omega, by rw [HT.out, HCALM.out]; simpa using HN.out⟩
      · go_wp2
        go_roundg f'
        case measure => have := HF'.out; omega
        case rel => exact ⟨k + 1, n, A3, c3, by simp, rfl, by have := HF'.out; have := HF.out; omega, by omega, by rw [HT.out, HCALM.out]; simpa using HN.out⟩
      · go_wp2_with (first | (at_builtin; refine wpList_append_any _ rfl (.tmp 38) (.tmp 40) 22 rfl _ 38 i38 _ 4 32 Try.underlying22 hi3 hz0 hz1 hz2 rfl (by decide) _ _ _ rfl ro.out _ _ 1 1 (ef [e]) rfl (Reads_at_en (e.al wr 38) e _ (size_alloc _ _)) (ef_one _) (by unfold maxLen; omega) (by omega) (by have := HN.out.bel.size; exact le_alloc this _) ?_; intro v1 w3 hown hgrow _; have M2 := Lib.hid ((HN.out.later (below_new _ _)).grow hgrow hown); obtain ⟨A4, c4, rfl, _⟩ := own_slice hown; clear hown hgrow))
        go_roundg f'
        case measure => have := HF'.out; omega
        case rel => exact ⟨k + 1, n + 1, A4, c4, by simp, rfl, by have := HF'.out; have := HF.out; omega, by omega, by rw [HT.out, HCALM.out, ← List.append_assoc]; exact M2.out⟩
    · have e : k = m := by omega
      have hk' : ¬ (k : Int) < m := by omega
      have hM : M.take k = M := List.take_of_length_le (by have := HLM.out; omega)
      rw [hM] at hB
      replace HB := Lib.hid hB
      have hcap := hB.cap2
      have hblk := h.all hB.bel
      have hf4 : wr.frozen? ⟨w1.heap.size, 4, none⟩ = false := hblk.frozen 4
      obtain ⟨i0, i1, i2, i3, i4, i5, i6, i7, ilt⟩ := Hd.eight hblk
      have K3 := groups_calls _ _ _ _ (with_is HI.out (below_via B0.out HB1.out) hB (by omega)) hcap.1 hcap.2
      rw [jmp_calm] at K3
      unfold Hd.with Hd.v at K3
      replace K3 := Lib.hid K3
      have HS := Lib.hid (below_set (v := .slice A3 n c3) (below_via B0.out HB1.out) (below_via (below_new w1 (.cells h.b 27)) hB.bel))
      have HS1 := Lib.hid (below_set (v := .slice A3 n c3) (Below.refl _ w1) (below_via (below_new w1 (.cells h.b 27)) hB.bel))
      clear hf hB hM hblk
      go_upto_region 13 with (first | (go_at_call 7; (with_reducible refine K3.out.mono ?_); rintro r w4 ⟨A5, n5, c5, rfl, hrd5, hb5⟩; have HR5 := Lib.hid hrd5; have HB5 := Lib.hid hb5; clear hrd5 hb5))
      have hn1 := reads_len3 HR1.out
      have hn5 := reads_len3 HR5.out
      have hg1 := grps_len (has (jmp C ++ tgt T)) C
      have hmore := fun (i : Nat) (hi : i + 2 < (grps (has (jmp C ++ tgt T)) C).length) => grps_more (has (jmp C ++ tgt T)) C (M.filter calm) i hi
      have HR1' := Lib.hid ((((HR1.out.below HS1.out).more HS1.out.size).below HB5.out).more HB5.out.size)
      rw [HL.out] at hg1
      clear K1 K3
      generalize grps (has (jmp C ++ tgt T)) C = G at *
      generalize grps (has (jmp C ++ tgt T)) (C ++ M.filter calm) = G2 at *
      have HMORE := Lib.hid hmore
      have HN1 := Lib.hid hn1
      have HN5 := Lib.hid hn5
      have hn1' : n1 ≤ 1048576 := by omega
      clear hmore hn1 hn5 hg1 i0 i1 i2 i3 i4 i5 i6 i7 ilt hf4
      go_wp2
      go_loopg [11] n1 (fun f i wr2 => ∃ k : Nat, i = .int .i64 k ∧ k + f = n1 ∧ Below w4.heap.size w4 wr2)
      case atStart => exact ⟨0, rfl, by omega, Below.refl _ _⟩
      case round =>
        rename World => wr2
        clear hk hk' e
        obtain ⟨k, rfl, hf, hB2⟩ := hrel
        have HB2 := Lib.hid hB2
        have hw2 : IntKind.i64.wrap ((k : Int) + 2) = (k : Int) + 2 := IntWalk.i64_in _ (by omega)
        by_cases hk : k + 2 < n1
        · have hk' : (k : Int) + 2 < n1 := by omega
          have hgk := HMORE.out k (by rw [HN1.out]; exact hk)
          obtain ⟨e, hx⟩ : ∃ e, G[k]? = some e := ⟨_, List.getElem?_eq_getElem (by have := HN1.out; omega)⟩
          rw [hx] at hgk
          obtain ⟨b, off, hA, _, x0, x1, x2⟩ := reads_at3 (HR1'.out.below hB2) hx
          obtain ⟨b2, off2, hA2, _, y0, y1, y2⟩ := reads_at3 (HR5.out.below hB2) hgk
          subst hA hA2
          have hk5 : k < n5 := by have := (List.getElem?_eq_some_iff.1 hgk).1; have := HN5.out; omega
          have hd : decide ((n5 : Int) ≤ k) = false := by simp; omega
          have hk1 : (k : Int) < n1 := by omega
          have hk5' : (k : Int) < n5 := by omega
          obtain ⟨f', hf'⟩ : ∃ f', gk = f' + 1 := ⟨gk - 1, by omega⟩
          have HF' := Lib.hid hf'
          have HF := Lib.hid hf
          have hg := fun op x y xs ys w => run_guard32 op x y xs ys w
          have hne := fun w => neq_same e w
          clear hx hf hf' hB2 hgk
          go_wp2
          go_quiet (fail)
          go_wp2
          go_roundg f'
          case measure => have := HF'.out; omega
          case rel => exact ⟨k + 1, by simp, by have := HF'.out; have := HF.out; omega, below_drewN HB2.out _⟩
        · have hk' : ¬ (k : Int) + 2 < n1 := by omega
          clear hf hB2
          go_wp2_with (first | (go_at_call 9; (with_reducible refine (AL.out _).mono ?_); rintro r w9 ⟨rfl, hb9⟩))
          go_ret
          exact ⟨rfl, below_via HS.out (below_via HB5.out (below_via HB2.out hb9))⟩
theorem call {H : Type} {enc : TypeId × Value → H} {W : World} {base : Nat} {v0 : Value} {d0 : DataW H} {p0 : List MemPlace} {v1 : Value} {d1 : DataW H} {p1 : List MemPlace}
    (o0 : Value.okWide Try.prog W .any base 27 v0) (h0 : DataW.Trod enc Try.prog W 0 (fun _ => true) true 27 v0 d0 p0) (o1 : Value.okWide Try.prog W .any base 22 v1) (h1 : DataW.Trod enc Try.prog W 0 (fun _ => true) true 22 v1 d1 p1) (hb : Rows.uptoBulk d0 + Rows.uptoBulk d1 ≤ 1048576) :
    Calls Try.prog 5 #[v0, v1] W fun e w' => e = .returned (.bool true) ∧ Below W.heap.size W w' := by
  obtain ⟨h, C, T, rfl, hi, hcc, hmx, hn⟩ := open_funcU o0 h0 (by omega)
  obtain ⟨a, len, cap, rfl⟩ := okWide_slice Try.underlying22 o1
  obtain ⟨fuel, h'⟩ := h1
  obtain ⟨A, m, c, L, hv1, hr, hm, _, _⟩ := open_code0 (x := (d1, p1)) h'
  rw [hv1]
  exact walk W h C L T A m c hi hcc hmx hn hr (by have : m ≤ Rows.uptoBulk d1 := hm; omega)
theorem own : ownKnob Try.prog.godebug = none := by kernel_rfl
theorem laidOut : laidOutB Try.prog = true := by kernel_rfl
set_option maxHeartbeats 0 in
/-- what the walk gives. -/
theorem contract (H : Type) (enc : TypeId × Value → H) (W : World) (base : Nat) (args : Array Value) (ds gs : List (DataW H)) (before : List MemPlace)
    (hval : ∀ (j : Nat) t v, Try.f5.params[j]? = some t → args[j]? = some v → Value.okWide Try.prog W .any base t v)
    (hW : DataW.Whole enc Try.prog Try.f5.params.toList Rows.fuseBehindSpec.vars false W args.toList ds gs before) (hk : Rows.uptoSmall H (ds ++ gs) = true) :
    Calls Try.prog 5 args W fun e W' => ∃ v, e = .returned v ∧ Rows.fuseBehindSpec.post enc Try.prog Try.f5 false true false false W args v W' := by
  have hW' := hW
  obtain ⟨p, q, hA0, hV, rfl, hfz, hnd⟩ := hW
  have hA : DataW.TrodAll enc Try.prog W 0 (fun _ => true) true Try.f5.params.toList args.toList ds p := hA0
  rw [Try.params5] at hA hval
  obtain ⟨v0, vs0, d0, ds0, p0, q0, hargs, rfl, rfl, h0, r0⟩ := trodAll_cons hA
  obtain ⟨v1, vs1, d1, ds1, p1, q1, rfl, rfl, rfl, h1, r1⟩ := trodAll_cons r0
  obtain ⟨rfl, rfl, rfl⟩ := trodAll_nil r1
  obtain rfl : args = #[v0, v1] := by cases args; simp_all
  obtain ⟨rfl, rfl⟩ := trodVars_none hV
  clear hA0
  simp only [List.append_nil] at hW' hk
  have lt0 : ∀ x ∈ p0, x.block < W.heap.size := fun x hx => hW'.lt x (by simp [hx])
  have lt1 : ∀ x ∈ p1, x.block < W.heap.size := fun x hx => hW'.lt x (by simp [hx])
  have hb : Rows.uptoBulk d0 + Rows.uptoBulk d1 ≤ 1048576 := by
    have h := of_decide_eq_true hk
    simp only [List.cons_append, List.nil_append, Rows.uptoBulkAll] at h
    omega
  refine (call (hval 0 27 v0 rfl rfl) h0 (hval 1 22 v1 rfl rfl) h1 hb).mono fun e W' ⟨he, bel⟩ => ?_
  subst he
  exact ⟨_, rfl, _, _, _, [], _, [], hW', (trodAll_cons_mk (shut_bool Try.underlying4 _) trodAll_mk0), (trodAll_cons_mk (Below.trod laidOut (by kernel_rfl) (of_decide_eq_true (by kernel_rfl)) h0 bel lt0) (trodAll_cons_mk (Below.trod laidOut (by kernel_rfl) (of_decide_eq_true (by kernel_rfl)) h1 bel lt1) trodAll_mk0)), rfl, bel.frame _, fun h => by cases h⟩
set_option maxRecDepth 100000 in
theorem lifted (os : Os) (started : os.Started) (H : Type) (enc : TypeId × Value → H) (F : Stop.Interp) :
    ReturnsInHanded {} Try.checked os 5 .any ((Rows.OpenSpec.upto Rows.fuseBehindSpec).pre6 enc Try.prog Try.f5 Rows.fuseBehindUptoRow.domain false) (((Rows.OpenSpec.upto Rows.fuseBehindSpec).at F).post enc Try.prog Try.f5 false true false false) := by
  refine returnsInHanded_of_cond (C := Try.checked) (s := Rows.OpenSpec.upto Rows.fuseBehindSpec) (k := Rows.uptoSmall) rfl own started (by kernel_rfl) Try.func5
    (OpenSpec.witness (enc := enc) (C := Try.checked) (s := Rows.OpenSpec.upto Rows.fuseBehindSpec) (k := Rows.uptoSmall) rfl false ⟨#[], #[.agg #[.string ⟨#[]⟩, .int .i64 0, .int .i64 0, .bool false, .slice none 0 0, .slice none 0 0, .slice none 0 0, .slice none 0 0], .slice none 0 0], []⟩ 8 (by kernel_rfl) (by kernel_rfl) (by kernel_rfl)
      (x := ([.agg [.lit (.string []), .lit (.int .i64 0), .lit (.int .i64 0), .lit (.bool false), .nil, .nil, .nil, .nil], .nil], [], [])) (by kernel_rfl) rfl (by kernel_rfl)) ?_
  intro W base args ds gs before hval hW _ hk _
  exact contract H enc W base args ds gs before hval hW hk
set_option maxHeartbeats 0 in
theorem over : Rows.fuseBehindUptoRow.holds Try.pinned (Rows.OpenSpec.upto Rows.fuseBehindSpec) :=
  OpenClaim.holds_of_cond 5 Try.f5 rfl rfl rfl rfl rfl rfl rfl ⟨rfl, rfl, rfl, rfl, rfl⟩ rfl rfl rfl rfl rfl (by as_aux_lemma => kernel_rfl) Try.func5 (by as_aux_lemma => kernel_rfl)
    (of_decide_eq_true (by as_aux_lemma => kernel_rfl)) (by as_aux_lemma => unfold Func.isWrapper; first | (rw [if_pos (by decide +kernel)]; kernel_rfl) | (rw [if_neg (by decide +kernel)]; exact ⟨rfl, rfl⟩))
    (fun os started H enc _ F => lifted os started H enc F)
theorem proved : Rows.FuseBehindUptoSaid :=
  over
#print axioms proved
end Go.Proofs.Ytblkedhkkhppnaa.fuseBehind
namespace Go.Proofs.Ytblkedhkkhppnaa
theorem fuseBehind_holds : Rows.FuseBehindUptoSaid := fuseBehind.proved
end Go.Proofs.Ytblkedhkkhppnaa
