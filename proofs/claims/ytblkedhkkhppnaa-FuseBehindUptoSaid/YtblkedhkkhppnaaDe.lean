/- Fuse: the document's kind of a group. -/
import Derived.Test.YtblkedhkkhppnaaDd
import Derived.BigQuiet
namespace Go.Proofs.Ytblkedhkkhppnaa
open Go.RowKit Go
set_option linter.unusedVariables false
set_option linter.unusedSimpArgs false
/-- 'three' is false in one of six ways, each number looked at by itself. -/
theorem three_ways6 {a b c : En} (h : three a b c = false) : (a.s == 13) = false ∨ ((a.s == 13) = true ∧ (b.s == 13) = false) ∨ ((a.s == 13) = true ∧ (b.s == 13) = true ∧ decide (21 ≤ c.s) = false) ∨ ((a.s == 13) = true ∧ (b.s == 13) = true ∧ decide (21 ≤ c.s) = true ∧ decide (c.s ≤ 35) = false) ∨ ((a.s == 13) = true ∧ (b.s == 13) = true ∧ decide (21 ≤ c.s) = true ∧ decide (c.s ≤ 35) = true ∧ (a.h == c.o) = false) ∨ ((a.s == 13) = true ∧ (b.s == 13) = true ∧ decide (21 ≤ c.s) = true ∧ decide (c.s ≤ 35) = true ∧ (a.h == c.o) = true ∧ (b.h == c.c) = false) := by
  unfold three ari at h
  cases h1 : (a.s == 13) <;> cases h2 : (b.s == 13) <;> cases h3 : decide (21 ≤ c.s) <;> cases h3' : decide (c.s ≤ 35) <;> cases h4 : (a.h == c.o) <;> cases h5 : (b.h == c.c) <;> simp_all
theorem three_all {a b c : En} (h : three a b c = true) : (a.s == 13) = true ∧ (b.s == 13) = true ∧ decide (21 ≤ c.s) = true ∧ decide (c.s ≤ 35) = true ∧ (a.h == c.o) = true ∧ (b.h == c.c) = true := by
  unfold three ari at h
  simp only [Bool.and_eq_true] at h
  obtain ⟨⟨⟨⟨e1, e2⟩, e3, e3'⟩, e4⟩, e5⟩ := h
  exact ⟨e1, e2, e3, e3', e4, e5⟩
theorem below_drewN {B : Nat} {a w : World} (h : Below B a w) (n : Nat) : Below B a (w.drewN n) := ⟨h.os, h.tape, h.output, h.size, h.block⟩
set_option maxRecDepth 100000 in
set_option maxHeartbeats 8000000 in
theorem kind2 (w : World) (h : Hd) (b off k r : Nat) (x y z : En) (hr : 2 ≤ r) (hk : k + r ≤ h.nc) (hr3 : r ≤ 3) (hn : h.nc ≤ 140737488351232) (hA : h.Ac = some ⟨b, off, none⟩) (h0 : At w b off k x) (h1 : At w b off (k + 1) y) (h2 : 3 ≤ r → At w b off (k + 2) z) (hb : b < w.heap.size) :
    Calls Try.prog 16 #[h.v, .int .i64 k, .int .i64 r] w fun e w' => e = .returned (.tuple #[.int .i64 (if 3 ≤ r ∧ three x y z = true then (1, 3) else two x y).1, .int .i64 (if 3 ≤ r ∧ three x y z = true then (1, 3) else two x y).2]) ∧ Below w.heap.size w w' := by
  obtain ⟨a0, a1, a2, a3⟩ := h0
  obtain ⟨b0, b1, b2, b3⟩ := h1
  have hr' : ¬ (r : Int) < 2 := by omega
  have hk1 : (k : Int) < h.nc := by omega
  have hk2 : (k : Int) + 1 < h.nc := by omega
  have hw1 : IntKind.i64.wrap ((k : Int) + 1) = (k : Int) + 1 := IntWalk.i64_in _ (by omega)
  have hw2 : IntKind.i64.wrap ((k : Int) + 2) = (k : Int) + 2 := IntWalk.i64_in _ (by omega)
  have hb1 : b < w.heap.size + 1 := by omega
  have hb2 : b < w.heap.size + 1 + 1 := by omega
  have HT := Lib.hid h2
  generalize hq : (if 3 ≤ r ∧ three x y z = true then ((1 : Int), (3 : Int)) else two x y) = q
  have HQ := Lib.hid hq
  unfold Hd.v
  rw [hA]
  clear h2 hq
  go_enter Try.func16, Try.ntmps16
  go_upto_region 5 with (fail)
  go_cut [78] from 23 to 78 (fun s wx => s = .bool (decide (3 ≤ r) && three x y z) ∧ Blk wx (w.heap.size + 1) 38 #[.int .i64 x.s, .int .i64 x.h, .int .i64 x.o, .int .i64 x.c] ∧ Blk wx (w.heap.size + 1 + 1) 38 #[.int .i64 y.s, .int .i64 y.h, .int .i64 y.o, .int .i64 y.c] ∧ Below w.heap.size w wx)
  case first =>
    have hX := fun (o1 : Obj) (n : Nat) => ((Blk.new (w.alloc o1) 38 #[.int .i64 x.s, .int .i64 x.h, .int .i64 x.o, .int .i64 x.c]).alloc (.cells #[.int .i64 y.s, .int .i64 y.h, .int .i64 y.o, .int .i64 y.c] 38)).drewN n
    have hY := fun (o1 o2 : Obj) (n : Nat) => (Blk.new ((w.alloc o1).alloc o2) 38 #[.int .i64 y.s, .int .i64 y.h, .int .i64 y.o, .int .i64 y.c]).drewN n
    have hZ := fun (o1 o2 o3 : Obj) (n : Nat) => below_drewN (below_alloc (below_alloc (below_new w o1) o2) o3) n
    simp only [size_alloc] at hX hY
    replace hX := Lib.hid hX
    replace hY := Lib.hid hY
    replace hZ := Lib.hid hZ
    by_cases h3 : 3 ≤ r
    · obtain ⟨c0, c1, c2, c3⟩ := HT.out h3
      have hd : decide ((2 : Int) < r) = true := by simp; omega
      have hk3 : (k : Int) + 2 < h.nc := by omega
      cases ht : three x y z
      · rcases three_ways6 ht with e1 | ⟨e1, e2⟩ | ⟨e1, e2, e3⟩ | ⟨e1, e2, e3, e3'⟩ | ⟨e1, e2, e3, e3', e4⟩ | ⟨e1, e2, e3, e3', e4, e5⟩
        all_goals
          replace ht := Lib.hid ht
          go_quiet (fail)
          go_wp2
          go_meet
          exact ⟨by simp [ht.out], hX.out _ _, hY.out _ _ _, hZ.out _ _ _ _⟩
      · obtain ⟨e1, e2, e3, e3', e4, e5⟩ := three_all ht
        replace ht := Lib.hid ht
        go_quiet (fail)
        go_wp2
        go_meet
        exact ⟨by simp [ht.out, h3], hX.out _ _, hY.out _ _ _, hZ.out _ _ _ _⟩
    · have hd : decide ((2 : Int) < r) = false := by simp; omega
      go_quiet (fail)
      go_wp2
      go_meet
      exact ⟨by simp [h3], hX.out _ _, hY.out _ _ _, hZ.out _ _ _ _⟩
  case rest =>
    obtain ⟨rfl, k7, k8, hbl⟩ := hcut
    obtain ⟨x0, x1, x2, x3⟩ := Cop.cells k7
    obtain ⟨y0, y1, y2, y3⟩ := Cop.cells k8
    have HBD := Lib.hid hbl
    clear k7 k8 hbl
    rename World => wd
    cases ht3 : (decide (3 ≤ r) && three x y z)
    · have hno : ¬ (3 ≤ r ∧ three x y z = true) := by
        simp only [Bool.and_eq_false_iff, decide_eq_false_iff_not] at ht3
        rintro ⟨g1, g2⟩
        rcases ht3 with g | g
        · exact g g1
        · rw [g2] at g; cases g
      have hq2 : two x y = q := by have := HQ.out; rwa [if_neg hno] at this
      replace HQ := Lib.hid hq2
      clear hno hq2 ht3 a0 a1 a2 a3 b0 b1 b2 b3 hb hb1 hb2 hw1 hw2
      go_upto_region 7 with (fail)
      go_cut [103] from 79 to 103 (fun s wx => s = .bool (isT x y) ∧ wx = wd)
      case first =>
        by_cases f1 : 32 ≤ x.s
        · by_cases f2 : x.s ≤ 39
          · cases e2 : (y.s == 58)
            · cases e3 : (y.s == 59)
              · go_wp2
                go_meet
                exact ⟨by simp [isT, tst, *], rfl⟩
              · cases e4 : (x.h == y.h)
                all_goals
                  go_wp2
                  go_meet
                  exact ⟨by simp [isT, tst, *], rfl⟩
            · cases e4 : (x.h == y.h)
              all_goals
                go_wp2
                go_meet
                exact ⟨by simp [isT, tst, *], rfl⟩
          · go_wp2
            go_meet
            exact ⟨by simp [isT, tst, *] <;> omega, rfl⟩
        · go_wp2
          go_meet
          exact ⟨by simp [isT, tst, *] <;> omega, rfl⟩
      case rest =>
        obtain ⟨rfl, hw⟩ := hcut
        rw [hw]
        clear hw
        cases ht : isT x y
        · have HT2 := Lib.hid ht
          clear ht
          go_upto_region 9 with (fail)
          go_cut [118] from 104 to 118 (fun s wx => s = .bool (isF x y) ∧ wx = wd)
          case first =>
            cases e1 : (x.s == 10)
            · go_wp2
              go_meet
              exact ⟨by simp [isF, *], rfl⟩
            · cases e2 : (y.s == 8)
              · go_wp2
                go_meet
                exact ⟨by simp [isF, *], rfl⟩
              · cases e3 : (x.h == y.o)
                all_goals
                  go_wp2
                  go_meet
                  exact ⟨by simp [isF, *], rfl⟩
          case rest =>
            obtain ⟨rfl, hw⟩ := hcut
            rw [hw]
            clear hw
            cases hf : isF x y
            · have HF2 := Lib.hid hf
              clear hf
              go_upto_region 11 with (fail)
              go_cut [126] from 119 to 126 (fun s wx => s = .bool (isM x y) ∧ wx = wd)
              case first =>
                cases e1 : (x.s == 3)
                · go_wp2
                  go_meet
                  exact ⟨by simp [isM, *], rfl⟩
                · cases e2 : (y.s == 3)
                  all_goals
                    go_wp2
                    go_meet
                    exact ⟨by simp [isM, *], rfl⟩
              case rest =>
                obtain ⟨rfl, hw⟩ := hcut
                rw [hw]
                clear hw
                cases hm : isM x y
                · have HM2 := Lib.hid hm
                  clear hm
                  go_wp2
                  refine bodyPost_ret (v := .tuple #[.int .i64 0, .int .i64 1]) (by simp [results, Try.results16, go_sem]) rfl ⟨?_, HBD.out⟩
                  rw [← HQ.out, two, if_neg (by simp [HT2.out]), if_neg (by simp [HF2.out]), if_neg (by simp [HM2.out])]
                · have HM2 := Lib.hid hm
                  clear hm
                  go_wp2
                  refine bodyPost_ret (v := .tuple #[.int .i64 4, .int .i64 2]) (by simp [results, Try.results16, go_sem]) rfl ⟨?_, HBD.out⟩
                  rw [← HQ.out, two, if_neg (by simp [HT2.out]), if_neg (by simp [HF2.out]), if_pos (by simp [HM2.out])]
            · have HF2 := Lib.hid hf
              clear hf
              go_wp2
              refine bodyPost_ret (v := .tuple #[.int .i64 3, .int .i64 2]) (by simp [results, Try.results16, go_sem]) rfl ⟨?_, HBD.out⟩
              rw [← HQ.out, two, if_neg (by simp [HT2.out]), if_pos (by simp [HF2.out])]
        · have HT2 := Lib.hid ht
          clear ht
          go_wp2
          refine bodyPost_ret (v := .tuple #[.int .i64 2, .int .i64 2]) (by simp [results, Try.results16, go_sem]) rfl ⟨?_, HBD.out⟩
          rw [← HQ.out, two, if_pos (by simp [HT2.out])]
    · have hyes : 3 ≤ r ∧ three x y z = true := by simpa using ht3
      have HY := Lib.hid hyes
      clear hyes ht3
      go_wp2
      refine bodyPost_ret (v := .tuple #[.int .i64 1, .int .i64 3]) (by simp [results, Try.results16, go_sem]) rfl ⟨?_, HBD.out⟩
      rw [← HQ.out, if_pos HY.out]
set_option maxRecDepth 100000 in
set_option maxHeartbeats 8000000 in
theorem kind_calls (w : World) (h : Hd) (C : List En) (T : List Tr) (hi : h.Is w C T) (k r : Nat) (h1 : 1 ≤ r) (hr3 : r ≤ 3) (hk : k + r ≤ h.nc) :
    Calls Try.prog 16 #[h.v, .int .i64 k, .int .i64 r] w fun e w' => e = .returned (.tuple #[.int .i64 (pat ((C.drop k).take r)).1, .int .i64 (pat ((C.drop k).take r)).2]) ∧ Below w.heap.size w w' := by
  have hl := reads_len hi.code
  have hnc := hi.nc
  have hx : C[k]? = some (C[k]'(by omega)) := List.getElem?_eq_getElem _
  have hd := Lib.hid (drop_at hx)
  by_cases h2 : r < 2
  · have hr : r = 1 := by omega
    subst hr
    have hp : pat ((C.drop k).take 1) = (0, 1) := by rw [hd.out]; rfl
    rw [hp]
    have hbn := Lib.hid (below_new w (.cells h.b 27))
    unfold Hd.v
    clear hi hp
    go_enter Try.func16, Try.ntmps16
    go_wp2
    refine bodyPost_ret (v := .tuple #[.int .i64 0, .int .i64 1]) (by simp [results, Try.results16, go_sem]) rfl ⟨rfl, hbn.out⟩
  · obtain ⟨b, off, hA, hb, a0⟩ := reads_at hi.code hx
    have hy : C[k + 1]? = some (C[k + 1]'(by omega)) := List.getElem?_eq_getElem _
    obtain ⟨b', off', hA', _, a1⟩ := reads_at hi.code hy
    rw [hA] at hA'
    cases hA'
    have hd2 := drop_at hy
    by_cases h3 : 3 ≤ r
    · have hr : r = 3 := by omega
      subst hr
      have hz : C[k + 2]? = some (C[k + 2]'(by omega)) := List.getElem?_eq_getElem _
      obtain ⟨b', off', hA', _, a2⟩ := reads_at hi.code hz
      rw [hA] at hA'
      cases hA'
      have := kind2 w h b off k 3 _ _ _ (by omega) hk (by omega) (by omega) hA a0 a1 (fun _ => a2) hb
      have hp : (C.drop k).take 3 = [C[k]'(by omega), C[k + 1]'(by omega), C[k + 2]'(by omega)] := by rw [hd.out, hd2, drop_at hz]; rfl
      rw [hp]
      simpa [pat] using this
    · have hr : r = 2 := by omega
      subst hr
      have := kind2 w h b off k 2 _ _ (C[k]'(by omega)) (by omega) hk (by omega) (by omega) hA a0 a1 (fun h => by omega) hb
      have hp : (C.drop k).take 2 = [C[k]'(by omega), C[k + 1]'(by omega)] := by rw [hd.out, hd2]; rfl
      rw [hp]
      simpa [pat] using this
end Go.Proofs.Ytblkedhkkhppnaa
