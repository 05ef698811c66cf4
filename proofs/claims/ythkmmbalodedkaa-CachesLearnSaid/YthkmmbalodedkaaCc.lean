/- Caches: the document's Find and SameSite walked. -/
import Derived.Test.YthkmmbalodedkaaCb
import Derived.Laws.StructEq
namespace Go.Proofs.Ythkmmbalodedkaa
open Go.RowKit Go
set_option linter.unusedVariables false
set_option linter.unusedSimpArgs false
theorem drop_at {L : List En} {k : Nat} {e : En} (hx : L[k]? = some e) : L.drop k = e :: L.drop (k + 1) := by
  obtain ⟨h1, h2⟩ := List.getElem?_eq_some_iff.1 hx
  rw [← h2]; exact List.drop_eq_getElem_cons h1
set_option maxRecDepth 100000 in
set_option maxHeartbeats 4000000 in
theorem rfind_calls (w : World) (st sh : Int) (A Av : Option Addr) (m c mv cv : Nat) (L : List En) (l : List Int) (hv : Reads w w.heap.size 1 Av mv (l.map (Value.int .i64))) (hmv : mv ≤ 140737488351232) (hr : Reads w w.heap.size 4 A m (ef L)) (hm : m ≤ 140737488351232) :
    Calls Try.prog 11 #[siteV st A m c, .int .i64 sh, .slice Av mv cv] w fun r w' => r = .returned (fndV (fnd (fits (has l) sh) L)) ∧ Below w.heap.size w w' := by
  have hl := reads_len hr
  have B0 : Below w.heap.size w ((w.alloc (.cells #[.int .i64 st, .slice A m c] 24)).alloc (.cells #[.int .i64 0, .int .i64 0, .int .i64 0, .int .i64 0] 26)) := (((Below.refl _ _).alloc (Nat.le_refl _) _).alloc (by simp) _)
  obtain ⟨W0, hW0⟩ : ∃ W0, (w.alloc (.cells #[.int .i64 st, .slice A m c] 24)).alloc (.cells #[.int .i64 0, .int .i64 0, .int .i64 0, .int .i64 0] 26) = W0 := ⟨_, rfl⟩
  rw [hW0] at B0
  have hz : Blk W0 (w.heap.size + 1) 26 zB := by rw [← hW0]; have := Blk.new (w.alloc (.cells #[.int .i64 st, .slice A m c] 24)) 26 zB; simpa using this
  have hbx : Blk W0 w.heap.size 24 #[.int .i64 st, .slice A m c] := by rw [← hW0]; exact (Blk.new w 24 _).alloc _
  have hIn := fun n => in_calls W0 Av mv cv l n ((hv.below B0).more B0.size) hmv
  have hrd := hr.below B0
  have q0 := hbx.cell 0
  have q1 := hbx.cell 1
  have HW := Lib.hid hW0
  have HB0 := Lib.hid B0
  have HZ := Lib.hid hz
  have HR := Lib.hid hrd
  have HL := Lib.hid hl
  have HI := Lib.hid hIn
  simp only [List.getElem?_toArray, List.getElem?_cons_zero, List.getElem?_cons_succ] at q0 q1
  unfold siteV
  clear hW0 B0 hz hr hrd hl hv hIn hbx
  go_enter Try.func11, Try.ntmps11
  go_wp2
  rw [HW.out]
  go_loopg [8] m (fun f i wr => ∃ k : Nat, i = .int .i64 k ∧ k + f = m ∧ fnd (fits (has l) sh) L = fnd (fits (has l) sh) (L.drop k) ∧ wr = W0)
  case atStart => exact ⟨0, rfl, by omega, rfl, rfl⟩
  case round =>
    obtain ⟨k, rfl, hf, he, rfl⟩ := hrel
    have HE := Lib.hid he
    obtain ⟨z0, z1, z2, z3, y0, y1, y2, y3⟩ := HZ.out.four
    clear he
    by_cases hk : k < m
    · obtain ⟨e, hx⟩ : ∃ e, L[k]? = some e := ⟨_, List.getElem?_eq_getElem (by have := HL.out; omega)⟩
      have hd := drop_at hx
      obtain ⟨b, off, rfl, hbl, ha⟩ := reads_at HR.out hx
      obtain ⟨c0, c1, c2, c3⟩ := ha
      have hk' : (k : Int) < m := by omega
      have HD := Lib.hid hd
      obtain ⟨f', hf'⟩ : ∃ f', gk = f' + 1 := ⟨gk - 1, by omega⟩
      have HF' := Lib.hid hf'
      have HF := Lib.hid hf
      have K := HI.out e.c
      clear hx hd hf hf'
      by_cases hp : fits (has l) sh e = true
      · have HP := Lib.hid hp
        have hp' := hp
        unfold fits hld at hp'
        rw [Bool.and_eq_true] at hp'
        obtain ⟨hs, hh⟩ := hp'
        have hs' : e.s = sh := by simpa using hs
        subst hs'
        cases hcc : (e.c == -1)
        · rw [hcc, Bool.false_or] at hh
          rw [hh] at K
          replace K := Lib.hid K
          clear hs hh hp
          go_wp2_with (first | (go_at_call 9; (with_reducible refine K.out.mono ?_); rintro r w1 ⟨rfl, rfl⟩))
          refine bodyPost_ret (v := fndV (some e)) (by simp [results, Try.results11, go_sem, fndV, En.v, zE, z0, z1, z2, z3]) rfl ⟨?_, ?_⟩
          · rw [HE.out, HD.out, fnd, HP.out]; rfl
          · have hfin := HB0.out
            repeat (first | exact hfin | refine Below.setCell ?_ (by show w.heap.size ≤ w.heap.size + 1; omega) _)
        · have hcc' : e.c = -1 := by simpa using hcc
          replace K := Lib.hid K
          clear hs hh hp
          obtain ⟨es, eh, eo, ec⟩ := e
          simp only at hcc' c0 c1 c2 c3 K HP
          subst hcc'
          go_wp2_with (first | (go_at_call 9; (with_reducible refine K.out.mono ?_); rintro r w1 ⟨rfl, rfl⟩))
          all_goals refine bodyPost_ret (v := fndV (some ⟨es, eh, eo, -1⟩)) (by simp [results, Try.results11, go_sem, fndV, En.v, zE, z0, z1, z2, z3]) rfl ⟨?_, ?_⟩
          · have h1 : fnd (fits (has l) es) L = fnd (fits (has l) es) (L.drop k) := HE.out
            have h2 : L.drop k = ⟨es, eh, eo, -1⟩ :: L.drop (k + 1) := HD.out
            have h3 : fits (has l) es ⟨es, eh, eo, -1⟩ = true := HP.out
            show _ = Ending.returned (fndV (fnd (fits (has l) es) L))
            rw [h1, h2, fnd, h3]; rfl
          · have hfin := HB0.out
            repeat (first | exact hfin | refine Below.setCell ?_ (by show w.heap.size ≤ w.heap.size + 1; omega) _)
      · have hp : fits (has l) sh e = false := by simpa using hp
        have HP := Lib.hid hp
        unfold fits hld at hp
        have fin : fnd (fits (has l) sh) L = fnd (fits (has l) sh) (L.drop (k + 1)) := by rw [HE.out, HD.out, fnd, HP.out]; rfl
        have FIN := Lib.hid fin
        clear fin
        cases hs : (e.s == sh)
        · replace K := Lib.hid K
          clear hp
          go_wp2_with (first | (go_at_call 9; (with_reducible refine K.out.mono ?_); rintro r w1 ⟨rfl, rfl⟩))
          go_roundg f'
          case measure => have := HF'.out; omega
          case rel => exact ⟨k + 1, by simp, by have := HF'.out; have := HF.out; omega, FIN.out, rfl⟩
        · rw [hs, Bool.true_and, Bool.or_eq_false_iff] at hp
          obtain ⟨hp1, hp2⟩ := hp
          rw [hp2] at K
          replace K := Lib.hid K
          have hs' : e.s = sh := by simpa using hs
          subst hs'
          clear hs hp2
          go_wp2_with (first | (go_at_call 9; (with_reducible refine K.out.mono ?_); rintro r w1 ⟨rfl, rfl⟩))
          go_roundg f'
          case measure => have := HF'.out; omega
          case rel => exact ⟨k + 1, by simp, by have := HF'.out; have := HF.out; omega, FIN.out, rfl⟩
    · have hk' : ¬ (k : Int) < m := by omega
      go_wp2
      refine bodyPost_ret (v := fndV none) (by simp [results, Try.results11, go_sem, fndV, En.v, zE, z0, z1, z2, z3]) rfl ⟨?_, ?_⟩
      · rw [HE.out, List.drop_of_length_le (by have := HL.out; omega)]; rfl
      · have hfin := HB0.out
        repeat (first | exact hfin | refine Below.setCell ?_ (by show w.heap.size ≤ w.heap.size + 1; omega) _)
theorem stood26 : Try.prog.stoodInHeld 26 = false := by kernel_rfl
theorem und26 : Try.prog.underlying 26 = some (.struct (Try.prog.fieldsOf 26)) := by kernel_rfl
theorem guard26 : Try.prog.eqGuardType Try.prog.depth 26 = false := by kernel_rfl
theorem run_guard26 (op : BinOp) (x y : Operand) (xs ys : Array Value) (w : World) : (eqGuard op 26 x y (.agg xs) (.agg ys)).run Try.prog w = .ok () w := run_eqGuard_agg w op 26 x y xs ys guard26
theorem fields26 : (Try.prog.fieldsOf 26).toList.map (fun f => (f.name, f.type, f.offset)) = [("Shape", 3, 0), ("Holder", 3, 1), ("Slot", 3, 2), ("Cell", 3, 3)] := by kernel_rfl
theorem eqin26 (a b c d a' b' c' d' : Int) (w : World) : (Op.equalIn 10000 26 (.agg #[.int .i64 a, .int .i64 b, .int .i64 c, .int .i64 d]) (.agg #[.int .i64 a', .int .i64 b', .int .i64 c', .int .i64 d'])).run Try.prog w = .ok (decide (a = a') && (decide (b = b') && (decide (c = c') && decide (d = d')))) w := by
  rw [show (10000 : Nat) = 9999 + 1 from rfl, run_equalIn_agg w 9999 26 _ _ und26 stood26]
  have h := fields26
  generalize (Try.prog.fieldsOf 26).toList = fs at h
  obtain ⟨f0, f1, f2, f3, rfl⟩ : ∃ f0 f1 f2 f3, fs = [f0, f1, f2, f3] := by
    have hl := congrArg List.length h
    match fs, hl with
    | [a, b, c, d], _ => exact ⟨a, b, c, d, rfl⟩
  simp only [List.map_cons, List.map_nil, List.cons.injEq, Prod.mk.injEq, and_true] at h
  obtain ⟨⟨n0, t0, o0⟩, ⟨n1, t1, o1⟩, ⟨n2, t2, o2⟩, ⟨n3, t3, o3⟩⟩ := h
  simp [Op.eqFields, n0, t0, o0, n1, t1, o1, n2, t2, o2, n3, t3, o3, go_sem]
  by_cases h1 : a = a' <;> by_cases h2 : b = b' <;> by_cases h3 : c = c' <;> by_cases h4 : d = d' <;> simp [h1, h2, h3, h4]
theorem eqin_en (x y : En) (w : World) : (Op.equalIn 10000 26 (.agg #[.int .i64 x.s, .int .i64 x.h, .int .i64 x.o, .int .i64 x.c]) (.agg #[.int .i64 y.s, .int .i64 y.h, .int .i64 y.o, .int .i64 y.c])).run Try.prog w = .ok (decide (x = y)) w := by
  rw [eqin26]
  obtain ⟨a, b, c, d⟩ := x
  obtain ⟨a', b', c', d'⟩ := y
  congr 1
  simp only [En.mk.injEq, Bool.decide_and]
theorem eql_en (x y : En) (w : World) : (binOp .eql 26 (.agg #[.int .i64 x.s, .int .i64 x.h, .int .i64 x.o, .int .i64 x.c]) (.agg #[.int .i64 y.s, .int .i64 y.h, .int .i64 y.o, .int .i64 y.c])).run Try.prog w = .ok (.bool (decide (x = y))) w := by
  rw [run_eql_struct, eqin_en]; rfl
theorem neq_en (x y : En) (w : World) : (binOp .neq 26 (.agg #[.int .i64 x.s, .int .i64 x.h, .int .i64 x.o, .int .i64 x.c]) (.agg #[.int .i64 y.s, .int .i64 y.h, .int .i64 y.o, .int .i64 y.c])).run Try.prog w = .ok (.bool (!decide (x = y))) w := by
  rw [run_neq_struct, eqin_en]; rfl
/-- are two sites the same? -/
def sameS (s1 s2 : Int) (L1 L2 : List En) : Bool := (s1 == s2) && decide (L1 = L2)
set_option maxRecDepth 100000 in
set_option maxHeartbeats 4000000 in
theorem same_calls (w : World) (s1 s2 : Int) (A1 A2 : Option Addr) (m1 c1 m2 c2 : Nat) (L1 L2 : List En) (hr1 : Reads w w.heap.size 4 A1 m1 (ef L1)) (hr2 : Reads w w.heap.size 4 A2 m2 (ef L2)) (hm : m1 ≤ 140737488351232) (hm2 : m2 ≤ 140737488351232) :
    Calls Try.prog 13 #[siteV s1 A1 m1 c1, siteV s2 A2 m2 c2] w fun r w' => r = .returned (.bool (sameS s1 s2 L1 L2)) ∧ Below w.heap.size w w' := by
  have hl1 := reads_len hr1
  have hl2 := reads_len hr2
  have B0 : Below w.heap.size w ((w.alloc (.cells #[.int .i64 s1, .slice A1 m1 c1] 24)).alloc (.cells #[.int .i64 s2, .slice A2 m2 c2] 24)) := (((Below.refl _ _).alloc (Nat.le_refl _) _).alloc (by simp) _)
  have HB0 := Lib.hid B0
  unfold siteV
  by_cases hs : s1 = s2
  · subst hs
    by_cases hmm : m1 = m2
    · subst hmm
      obtain ⟨W0, hW0⟩ : ∃ W0, (w.alloc (.cells #[.int .i64 s1, .slice A1 m1 c1] 24)).alloc (.cells #[.int .i64 s1, .slice A2 m1 c2] 24) = W0 := ⟨_, rfl⟩
      have hb1 : Blk W0 w.heap.size 24 #[.int .i64 s1, .slice A1 m1 c1] := by rw [← hW0]; exact (Blk.new w 24 _).alloc _
      have hb2 : Blk W0 (w.heap.size + 1) 24 #[.int .i64 s1, .slice A2 m1 c2] := by rw [← hW0]; have := Blk.new (w.alloc (.cells #[.int .i64 s1, .slice A1 m1 c1] 24)) 24 #[.int .i64 s1, .slice A2 m1 c2]; simpa using this
      have q1 := hb1.cell 1
      have q2 := hb2.cell 1
      simp only [List.getElem?_toArray, List.getElem?_cons_zero, List.getElem?_cons_succ] at q1 q2
      rw [hW0] at HB0 B0
      have HR1 := Lib.hid (hr1.below B0)
      have HR2 := Lib.hid (hr2.below B0)
      have HW := Lib.hid hW0
      have HL1 := Lib.hid hl1
      have HL2 := Lib.hid hl2
      clear hr1 hr2 hl1 hl2 hb1 hb2 hW0 B0
      go_enter Try.func13, Try.ntmps13
      go_wp2
      rw [HW.out]
      go_loopg [5] m1 (fun f i wr => ∃ k : Nat, i = .int .i64 k ∧ k + f = m1 ∧ (L1 = L2 ↔ L1.drop k = L2.drop k) ∧ Below W0.heap.size W0 wr)
      case atStart => exact ⟨0, rfl, by omega, Iff.rfl, Below.refl _ _⟩
      case round =>
        obtain ⟨k, rfl, hf, he, hB⟩ := hrel
        have HE := Lib.hid he
        have HB := Lib.hid hB
        have HBW := Lib.hid (HB0.out.trans (hB.mono HB0.out.size))
        have g1 : wr.cell? ⟨w.heap.size, 1, none⟩ = some (.slice A1 m1 c1) := (hB.cell (p := ⟨_, 1, none⟩) (World.block_lt_of_cell? W0 _ q1)).trans q1
        have g2 : wr.cell? ⟨w.heap.size + 1, 1, none⟩ = some (.slice A2 m1 c2) := (hB.cell (p := ⟨_, 1, none⟩) (World.block_lt_of_cell? W0 _ q2)).trans q2
        have R1 := Lib.hid (HR1.out.below (hB.mono HB0.out.size))
        have R2 := Lib.hid (HR2.out.below (hB.mono HB0.out.size))
        clear he hB
        by_cases hk : k < m1
        · obtain ⟨e, hx⟩ : ∃ e, L1[k]? = some e := ⟨_, List.getElem?_eq_getElem (by have := HL1.out; omega)⟩
          obtain ⟨e2, hx2⟩ : ∃ e, L2[k]? = some e := ⟨_, List.getElem?_eq_getElem (by have := HL2.out; omega)⟩
          have HD := Lib.hid (drop_at hx)
          have HD2 := Lib.hid (drop_at hx2)
          obtain ⟨b, off, rfl, hbl, c0, c1', c2', c3⟩ := reads_at R1.out hx
          obtain ⟨b2, off2, rfl, hbl2, d0, d1, d2, d3⟩ := reads_at R2.out hx2
          have hk' : (k : Int) < m1 := by omega
          have hk0 : (0 : Int) ≤ k := by omega
          obtain ⟨f', hf'⟩ : ∃ f', gk = f' + 1 := ⟨gk - 1, by omega⟩
          have HF' := Lib.hid hf'
          have HF := Lib.hid hf
          clear hx hx2 hf hf'
          have hg := fun op x y xs ys => run_guard26 op x y xs ys wr
          by_cases hee : e = e2
          · subst hee
            have hne : ∀ w, (binOp .neq 26 (.agg #[.int .i64 e.s, .int .i64 e.h, .int .i64 e.o, .int .i64 e.c]) (.agg #[.int .i64 e.s, .int .i64 e.h, .int .i64 e.o, .int .i64 e.c])).run Try.prog w = .ok (.bool false) w := fun w => by rw [neq_en, decide_eq_true rfl]; rfl
            go_wp2
            go_quiet (fail)
            go_wp2
            go_roundg f'
            case measure => have := HF'.out; omega
            case rel => exact ⟨k + 1, by simp, by have := HF'.out; have := HF.out; omega, by rw [HE.out, HD.out, HD2.out, List.cons.injEq]; simp, HB.out.trans (below_drewN (Below.refl _ _) _)⟩
          · have hne : ∀ w, (binOp .neq 26 (.agg #[.int .i64 e.s, .int .i64 e.h, .int .i64 e.o, .int .i64 e.c]) (.agg #[.int .i64 e2.s, .int .i64 e2.h, .int .i64 e2.o, .int .i64 e2.c])).run Try.prog w = .ok (.bool true) w := fun w => by rw [neq_en, decide_eq_false hee]; rfl
            have HEE := Lib.hid hee
            clear hee
            go_wp2
            go_quiet (fail)
            go_wp2
            go_ret
            refine ⟨ret_bool ?_, below_drewN HBW.out _⟩
            have h := HE.out
            rw [HD.out, HD2.out, List.cons.injEq] at h
            unfold sameS
            rw [decide_eq_false (fun q => HEE.out (h.1 q).1)]
            simp
        · have hk' : ¬ (k : Int) < m1 := by omega
          go_wp2
          go_ret
          refine ⟨ret_bool ?_, HBW.out⟩
          have := HE.out
          rw [List.drop_of_length_le (by have := HL1.out; omega), List.drop_of_length_le (by have := HL2.out; omega)] at this
          unfold sameS
          simp [this]
    · have hne : sameS s1 s1 L1 L2 = false := by
        unfold sameS
        rw [decide_eq_false (fun q => hmm (by rw [← hl1, ← hl2, q]))]
        simp
      rw [hne]
      have hmb : ((m1 : Int) == m2) = false := beq_eq_false_iff_ne.2 (by omega)
      have hmb2 : ((m1 : Int) != m2) = true := bne_iff_ne.2 (by omega)
      clear hr1 hr2 hl1 hl2 B0 hne hmm
      go_enter Try.func13, Try.ntmps13
      go_wp2
      go_ret
      exact ⟨rfl, HB0.out⟩
  · have hne : sameS s1 s2 L1 L2 = false := by
      unfold sameS
      have : (s1 == s2) = false := by simpa using hs
      rw [this]; rfl
    rw [hne]
    have hmb : (s1 == s2) = false := by simpa using hs
    have hmb2 : (s1 != s2) = true := by simpa using hs
    clear hr1 hr2 hl1 hl2 B0 hne hs
    go_enter Try.func13, Try.ntmps13
    go_wp2
    go_ret
    exact ⟨rfl, HB0.out⟩
end Go.Proofs.Ythkmmbalodedkaa
