/- Fuse: patterns. -/
import Derived.Test.YtblkedhkkhppnaaDc
import Derived.BigRegion
import Derived.Deep.DeepCutAuto
namespace Go.Proofs.Ytblkedhkkhppnaa
open Go.RowKit Go
set_option linter.unusedVariables false
set_option linter.unusedSimpArgs false
def tst (x : Int) : Bool := decide (32 ≤ x) && decide (x ≤ 39)
def ari (x : Int) : Bool := decide (21 ≤ x) && decide (x ≤ 35)
def isT (a b : En) : Bool := tst a.s && ((b.s == 58) || (b.s == 59)) && (a.h == b.h)
def isF (a b : En) : Bool := (a.s == 10) && (b.s == 8) && (a.h == b.o)
def isM (a b : En) : Bool := (a.s == 3) && (b.s == 3)
def two (a b : En) : Int × Int := if isT a b then (2, 2) else if isF a b then (3, 2) else if isM a b then (4, 2) else (0, 1)
def three (a b c : En) : Bool := (a.s == 13) && (b.s == 13) && ari c.s && (a.h == c.o) && (b.h == c.c)
def pat : List En → Int × Int
  | a :: b :: c :: _ => if three a b c then (1, 3) else two a b
  | [a, b] => two a b
  | _ => (0, 1)
theorem arith_calls (x : Int) (w : World) : Calls Try.prog 21 #[.int .i64 x] w fun e w' => e = .returned (.bool (ari x)) ∧ w = w' := by
  unfold ari
  by_cases h : 21 ≤ x
  · by_cases h2 : x ≤ 35
    · go_enter Try.func21, Try.ntmps21
      go_wp2
      go_ret
      exact ⟨by simp [h, h2], rfl⟩
    · go_enter Try.func21, Try.ntmps21
      go_wp2
      go_ret
      exact ⟨by simp [h]; omega, rfl⟩
  · go_enter Try.func21, Try.ntmps21
    go_wp2
    go_ret
    exact ⟨by simp; omega, rfl⟩
theorem test_calls (x : Int) (w : World) : Calls Try.prog 22 #[.int .i64 x] w fun e w' => e = .returned (.bool (tst x)) ∧ w = w' := by
  unfold tst
  by_cases h : 32 ≤ x
  · by_cases h2 : x ≤ 39
    · go_enter Try.func22, Try.ntmps22
      go_wp2
      go_ret
      exact ⟨by simp [h, h2], rfl⟩
    · go_enter Try.func22, Try.ntmps22
      go_wp2
      go_ret
      exact ⟨by simp [h]; omega, rfl⟩
  · go_enter Try.func22, Try.ntmps22
    go_wp2
    go_ret
    exact ⟨by simp; omega, rfl⟩
/-- a copy of an instruction, in a block of the call's own. -/
def Cop (wx : World) (p : Value) (e : En) : Prop := ∃ g, p = .pointer (some ⟨g, 0, none⟩) ∧ Blk wx g 38 #[.int .i64 e.s, .int .i64 e.h, .int .i64 e.o, .int .i64 e.c]
theorem Cop.new (w : World) (e : En) (g : Nat) (h : w.heap.size = g) : Cop (w.alloc (.cells #[.int .i64 e.s, .int .i64 e.h, .int .i64 e.o, .int .i64 e.c] 38)) (.pointer (some ⟨g, 0, none⟩)) e := ⟨g, rfl, by subst h; exact Blk.new w 38 _⟩
theorem Cop.alloc {w : World} {p : Value} {e : En} (h : Cop w p e) (o : Obj) : Cop (w.alloc o) p e := by
  obtain ⟨g, h1, h2⟩ := h
  exact ⟨g, h1, h2.alloc o⟩
theorem Cop.drew {w : World} {p : Value} {e : En} (h : Cop w p e) : Cop w.drew p e := h
theorem size2 (w : World) (o o' : Obj) : ((w.alloc o).alloc o').heap.size = w.heap.size + 1 + 1 := by rw [size_alloc, size_alloc]
theorem Cop.cells {w : World} {g : Nat} {e : En} (h : Blk w g 38 #[.int .i64 e.s, .int .i64 e.h, .int .i64 e.o, .int .i64 e.c]) :
    w.cell? ⟨g, 0, none⟩ = some (.int .i64 e.s) ∧ w.cell? ⟨g, 1, none⟩ = some (.int .i64 e.h) ∧ w.cell? ⟨g, 2, none⟩ = some (.int .i64 e.o) ∧ w.cell? ⟨g, 3, none⟩ = some (.int .i64 e.c) :=
  ⟨(h.cell 0).trans rfl, (h.cell 1).trans rfl, (h.cell 2).trans rfl, (h.cell 3).trans rfl⟩
/-- 'three' is false in one of five ways. -/
theorem three_ways {a b c : En} (h : three a b c = false) : (a.s == 13) = false ∨ ((a.s == 13) = true ∧ (b.s == 13) = false) ∨ ((a.s == 13) = true ∧ (b.s == 13) = true ∧ ari c.s = false) ∨ ((a.s == 13) = true ∧ (b.s == 13) = true ∧ ari c.s = true ∧ (a.h == c.o) = false) ∨ ((a.s == 13) = true ∧ (b.s == 13) = true ∧ ari c.s = true ∧ (a.h == c.o) = true ∧ (b.h == c.c) = false) := by
  unfold three at h
  cases h1 : (a.s == 13) <;> cases h2 : (b.s == 13) <;> cases h3 : ari c.s <;> cases h4 : (a.h == c.o) <;> cases h5 : (b.h == c.c) <;> simp_all
set_option maxRecDepth 100000 in
set_option maxHeartbeats 8000000 in
theorem pattern2 (w : World) (b off m c : Nat) (x y z : En) (hm : 2 ≤ m) (h0 : At w b off 0 x) (h1 : At w b off 1 y) (h2 : 3 ≤ m → At w b off 2 z) (hb : b < w.heap.size) :
    Calls Try.prog 12 #[.slice (some ⟨b, off, none⟩) m c] w fun e w' => e = .returned (.tuple #[.int .i64 (if 3 ≤ m ∧ three x y z = true then (1, 3) else two x y).1, .int .i64 (if 3 ≤ m ∧ three x y z = true then (1, 3) else two x y).2]) ∧ Below w.heap.size w w' := by
  obtain ⟨a0, a1, a2, a3⟩ := h0
  obtain ⟨b0, b1, b2, b3⟩ := h1
  simp only [Nat.zero_mul, Nat.one_mul, Nat.add_zero, Nat.reduceMul, Nat.add_assoc, Nat.reduceAdd] at a0 a1 a2 a3 b0 b1 b2 b3
  have hm' : (2 : Int) ≤ m := by omega
  have hb1 : b < w.heap.size + 1 := by omega
  have hb2 : b < w.heap.size + 1 + 1 := by omega
  have KA := Lib.hid (fun w => arith_calls z.s w)
  have HT := Lib.hid h2
  generalize hq : (if 3 ≤ m ∧ three x y z = true then ((1 : Int), (3 : Int)) else two x y) = q
  have HQ := Lib.hid hq
  clear h2 hq
  go_enter Try.func12, Try.ntmps12
  go_upto_if 11 with (fail)
  go_cut [4] from 4 to 47 (fun s wx => Below w.heap.size w wx ∧ ¬ (3 ≤ m ∧ three x y z = true))
  case first =>
    by_cases h3 : 3 ≤ m
    · obtain ⟨c0, c1, c2, c3⟩ := HT.out h3
      simp only [Nat.add_assoc, Nat.reduceMul, Nat.reduceAdd] at c0 c1 c2 c3
      have h3' : (3 : Int) ≤ m := by omega
      go_upto_region 2 with (fail)
      go_cut [4, 5, 6] from 12 to 20 (fun p4 p5 p6 wx => Cop wx p4 x ∧ Cop wx p5 y ∧ Cop wx p6 z ∧ Below w.heap.size w wx)
      case first =>
        go_big_region
        all_goals
          go_wp2
          go_meet
          refine ⟨?_, ?_, ?_, ?_⟩
          all_goals first
            | exact (((Cop.new _ _ _ rfl).alloc _).alloc _).drew | exact ((Cop.new _ _ _ (size_alloc _ _)).alloc _).drew | exact (Cop.new _ _ _ (size2 _ _ _)).drew | exact (below_alloc (below_alloc (below_new _ _) _) _).drew
      case rest =>
        obtain ⟨⟨g4, rfl, k4⟩, ⟨g5, rfl, k5⟩, ⟨g6, rfl, k6⟩, hbl⟩ := hcut
        obtain ⟨x0, x1, x2, x3⟩ := Cop.cells k4
        obtain ⟨y0, y1, y2, y3⟩ := Cop.cells k5
        obtain ⟨z0, z1, z2, z3⟩ := Cop.cells k6
        have HBL := Lib.hid hbl
        clear k4 k5 k6 hbl a0 a1 a2 a3 b0 b1 b2 b3 c0 c1 c2 c3
        cases ht : three x y z
        · have HT2 := Lib.hid ht
          rcases three_ways ht with e1 | ⟨e1, e2⟩ | ⟨e1, e2, e3⟩ | ⟨e1, e2, e3, e4⟩ | ⟨e1, e2, e3, e4, e5⟩
          all_goals
            try rw [e3] at KA
            clear ht
            go_wp2_with (first | (go_at_call 21; (with_reducible refine (KA.out _).mono ?_); rintro e w' ⟨rfl, hw⟩; rw [← hw]; clear hw w'))
            go_meet
            exact ⟨HBL.out, by simp [HT2.out]⟩
        · have HT2 := Lib.hid ht
          unfold three at ht
          simp only [Bool.and_eq_true] at ht
          obtain ⟨⟨⟨⟨e1, e2⟩, e3⟩, e4⟩, e5⟩ := ht
          rw [e3] at KA
          go_wp2_with (first | (go_at_call 21; (with_reducible refine (KA.out _).mono ?_); rintro e w' ⟨rfl, hw⟩; rw [← hw]; clear hw w'))
          refine bodyPost_ret (v := .tuple #[.int .i64 1, .int .i64 3]) (by simp [results, Try.results12, go_sem]) rfl ⟨?_, HBL.out⟩
          rw [← HQ.out, if_pos ⟨h3, HT2.out⟩]
    · have h3' : ¬ (3 : Int) ≤ m := by omega
      go_wp2
      go_meet
      exact ⟨Below.refl _ _, fun h => h3 h.1⟩
  case rest =>
    obtain ⟨hbl, hnt⟩ := hcut
    rename World => wc
    have HBL := Lib.hid hbl
    have hq2 : two x y = q := by have := HQ.out; rwa [if_neg hnt] at this
    replace HQ := Lib.hid hq2
    have hsz := hbl.size
    replace a0 := (hbl.cell (p := ⟨b, off, none⟩) hb).trans a0
    replace a1 := (hbl.cell (p := ⟨b, off + 1, none⟩) hb).trans a1
    replace a2 := (hbl.cell (p := ⟨b, off + 2, none⟩) hb).trans a2
    replace a3 := (hbl.cell (p := ⟨b, off + 3, none⟩) hb).trans a3
    replace b0 := (hbl.cell (p := ⟨b, off + 4, none⟩) hb).trans b0
    replace b1 := (hbl.cell (p := ⟨b, off + 5, none⟩) hb).trans b1
    replace b2 := (hbl.cell (p := ⟨b, off + 6, none⟩) hb).trans b2
    replace b3 := (hbl.cell (p := ⟨b, off + 7, none⟩) hb).trans b3
    replace hb : b < wc.heap.size := by omega
    replace hb1 : b < wc.heap.size + 1 := by omega
    have m2 : ¬ (m : Int) < 2 := by omega
    have KT := Lib.hid (fun w => test_calls x.s w)
    clear hbl hnt hb2 hq2 hsz
    go_upto_region 7 with (fail)
    go_cut [7, 8] from 51 to 56 (fun p7 p8 wx => Cop wx p7 x ∧ Cop wx p8 y ∧ Below wc.heap.size wc wx)
    case first =>
      go_big_region
      all_goals
        go_wp2
        go_meet
        refine ⟨?_, ?_, ?_⟩
        all_goals first
          | exact ((Cop.new _ _ _ rfl).alloc _).drew | exact (Cop.new _ _ _ (size_alloc _ _)).drew | exact (below_alloc (below_new _ _) _).drew
    case rest =>
      rename World => wd
      obtain ⟨⟨g7, rfl, k7⟩, ⟨g8, rfl, k8⟩, hbd⟩ := hcut
      obtain ⟨x0, x1, x2, x3⟩ := Cop.cells k7
      obtain ⟨y0, y1, y2, y3⟩ := Cop.cells k8
      have HBD := Lib.hid (below_via HBL.out hbd)
      clear k7 k8 hbd a0 a1 a2 a3 b0 b1 b2 b3 hb hb1
      go_upto_region 8 with (fail)
      go_cut [57] from 58 to 77 (fun s wx => s = .bool (isT x y) ∧ wx = wd)
      case first =>
        skip
        cases e1 : tst x.s
        · rw [e1] at KT
          go_wp2_with (first | (go_at_call 22; (with_reducible refine (KT.out _).mono ?_); rintro e w' ⟨rfl, hw⟩; rw [← hw]; clear hw w'))
          go_meet
          exact ⟨by simp [isT, *], rfl⟩
        · rw [e1] at KT
          cases e2 : (y.s == 58)
          · cases e3 : (y.s == 59)
            · go_wp2_with (first | (go_at_call 22; (with_reducible refine (KT.out _).mono ?_); rintro e w' ⟨rfl, hw⟩; rw [← hw]; clear hw w'))
              go_meet
              exact ⟨by simp [isT, *], rfl⟩
            · cases e4 : (x.h == y.h)
              all_goals
                go_wp2_with (first | (go_at_call 22; (with_reducible refine (KT.out _).mono ?_); rintro e w' ⟨rfl, hw⟩; rw [← hw]; clear hw w'))
                go_meet
                exact ⟨by simp [isT, *], rfl⟩
          · cases e4 : (x.h == y.h)
            all_goals
              go_wp2_with (first | (go_at_call 22; (with_reducible refine (KT.out _).mono ?_); rintro e w' ⟨rfl, hw⟩; rw [← hw]; clear hw w'))
              go_meet
              exact ⟨by simp [isT, *], rfl⟩
      case rest =>
        obtain ⟨rfl, hw⟩ := hcut
        rw [hw]
        clear hw
        cases ht : isT x y
        · have HT2 := Lib.hid ht
          clear ht
          go_upto_region 10 with (fail)
          go_cut [78] from 79 to 93 (fun s wx => s = .bool (isF x y) ∧ wx = wd)
          case first =>
            skip
            cases e1 : (x.s == 10)
            · go_wp2
              go_meet
              exact ⟨by simp [isF, *], rfl⟩
            · cases e2 : (y.s == 8)
              · go_wp2
                go_meet
                exact ⟨by simp [isF, *], rfl⟩
              · cases e3 : (x.h == y.o)
                all_goals
                  go_wp2
                  go_meet
                  exact ⟨by simp [isF, *], rfl⟩
          case rest =>
            obtain ⟨rfl, hw⟩ := hcut
            rw [hw]
            clear hw
            cases hf : isF x y
            · have HF2 := Lib.hid hf
              clear hf
              go_upto_region 12 with (fail)
              go_cut [94] from 95 to 102 (fun s wx => s = .bool (isM x y) ∧ wx = wd)
              case first =>
                skip
                cases e1 : (x.s == 3)
                · go_wp2
                  go_meet
                  exact ⟨by simp [isM, *], rfl⟩
                · cases e2 : (y.s == 3)
                  all_goals
                    go_wp2
                    go_meet
                    exact ⟨by simp [isM, *], rfl⟩
              case rest =>
                obtain ⟨rfl, hw⟩ := hcut
                rw [hw]
                clear hw
                cases hm : isM x y
                · have HM2 := Lib.hid hm
                  clear hm
                  go_wp2
                  refine bodyPost_ret (v := .tuple #[.int .i64 0, .int .i64 1]) (by simp [results, Try.results12, go_sem]) rfl ⟨?_, HBD.out⟩
                  rw [← HQ.out, two, if_neg (by simp [HT2.out]), if_neg (by simp [HF2.out]), if_neg (by simp [HM2.out])]
                · have HM2 := Lib.hid hm
                  clear hm
                  go_wp2
                  refine bodyPost_ret (v := .tuple #[.int .i64 4, .int .i64 2]) (by simp [results, Try.results12, go_sem]) rfl ⟨?_, HBD.out⟩
                  rw [← HQ.out, two, if_neg (by simp [HT2.out]), if_neg (by simp [HF2.out]), if_pos (by simp [HM2.out])]
            · have HF2 := Lib.hid hf
              clear hf
              go_wp2
              refine bodyPost_ret (v := .tuple #[.int .i64 3, .int .i64 2]) (by simp [results, Try.results12, go_sem]) rfl ⟨?_, HBD.out⟩
              rw [← HQ.out, two, if_neg (by simp [HT2.out]), if_pos (by simp [HF2.out])]
        · have HT2 := Lib.hid ht
          clear ht
          go_wp2
          refine bodyPost_ret (v := .tuple #[.int .i64 2, .int .i64 2]) (by simp [results, Try.results12, go_sem]) rfl ⟨?_, HBD.out⟩
          rw [← HQ.out, two, if_pos (by simp [HT2.out])]
theorem pat_one (m : Nat) (L : List En) (h : L.length = m) (h2 : m < 2) : pat L = (0, 1) := by
  match L, h with
  | [], _ => rfl
  | [_], _ => rfl
  | _ :: _ :: _, h => simp at h; omega
set_option maxRecDepth 100000 in
set_option maxHeartbeats 8000000 in
theorem pattern_calls (w : World) (A : Option Addr) (m c : Nat) (L : List En) (hr : Reads w w.heap.size 4 A m (ef L)) :
    Calls Try.prog 12 #[.slice A m c] w fun e w' => e = .returned (.tuple #[.int .i64 (pat L).1, .int .i64 (pat L).2]) ∧ Below w.heap.size w w' := by
  have hl := reads_len hr
  by_cases h2 : m < 2
  · rw [pat_one m L hl h2]
    have h2' : (m : Int) < 2 := by omega
    clear hr
    go_enter Try.func12, Try.ntmps12
    go_wp2
    refine bodyPost_ret (v := .tuple #[.int .i64 0, .int .i64 1]) (by simp [results, Try.results12, go_sem]) rfl ⟨rfl, Below.refl _ _⟩
  · match L, hl with
    | [], hl => simp at hl; omega
    | [_], hl => simp at hl; omega
    | [x, y], hl =>
      obtain ⟨b, off, rfl, hb, h0⟩ := reads_at hr (i := 0) (e := x) rfl
      obtain ⟨b', off', hA, _, h1⟩ := reads_at hr (i := 1) (e := y) rfl
      cases hA
      have hm : m = 2 := by simpa using hl.symm
      have := pattern2 w b off m c x y x (by omega) h0 h1 (fun h => by omega) hb
      rw [if_neg (by omega)] at this
      exact this
    | x :: y :: z :: L, hl =>
      obtain ⟨b, off, rfl, hb, h0⟩ := reads_at hr (i := 0) (e := x) rfl
      obtain ⟨b', off', hA, _, h1⟩ := reads_at hr (i := 1) (e := y) rfl
      cases hA
      obtain ⟨b', off', hA, _, h3⟩ := reads_at hr (i := 2) (e := z) rfl
      cases hA
      have hm : 3 ≤ m := by simp at hl; omega
      have := pattern2 w b off m c x y z (by omega) h0 h1 (fun h => h3) hb
      rw [show (if 3 ≤ m ∧ three x y z = true then ((1 : Int), (3 : Int)) else two x y) = pat (x :: y :: z :: L) by simp [pat, hm]] at this
      exact this
end Go.Proofs.Ytblkedhkkhppnaa
