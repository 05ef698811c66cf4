/- For every site, every entry and every slice of ints the call of CachesLearn returns true, and its arguments read as before; no condition. -/
import Derived.Test.YthkmmbalodedkaaCl
import Derived.Deep.RegionHeld3
import Derived.Deep.DeepCutAuto
import Derived.Deep.RegionLaw
import Derived.Test.YthkmmbalodedkaaRows
import Derived.ProofKit
import Derived.OpenShut
import Derived.Carry
import Derived.JoinedOf
import Derived.SizedLaws
namespace Go.Proofs.Ythkmmbalodedkaa.cachesLearn
open Go.ChangeShapes Go.WideShapes Go.ChangeAt Go.RowKit Go.Deep Go
set_option linter.unusedSimpArgs false
set_option linter.unusedVariables false
/-- the site that is given on: a copy. -/
structure Giv (w3 wx : World) (gt : Nat) (st : Int) (A1 : Option Addr) (m c1 : Nat) (L : List En) : Prop where
  t : Blk wx gt 24 #[.int .i64 st, .slice A1 m c1]
  row : wx.ownsRow w3.heap.size 26 4 (.slice A1 m c1) m (ef L)
  bel : Below w3.heap.size w3 wx
  lt : w3.heap.size ≤ gt
def GivS (w3 : World) (st : Int) (m : Nat) (L : List En) (v : Value) (wx : World) : Prop := ∃ gt A1 c1, v = .pointer (some ⟨gt, 0, none⟩) ∧ Giv w3 wx gt st A1 m c1 L
theorem blk_at (w : World) (g : Nat) (t : TypeId) (cs : Array Value) (h : g = w.heap.size) : Blk (w.alloc (.cells cs t)) g t cs := h ▸ Blk.new w t cs
theorem two_grown {W w1 : World} {row : Option Nat} {g : Nat} {t : TypeId} {a b : Value} (h : W.grownBy w1 row) (hb : Blk W g t #[a, b]) (hne : some g ≠ row) : Two w1 g a b := (hb.grown h hne).two
theorem keep2 {W : World} {g : Nat} {t : TypeId} {a b : Value} (h : Blk W g t #[a, b]) : W.cell? ⟨g, 0, none⟩ = some a ∧ W.cell? ⟨g, 1, none⟩ = some b := ⟨h.two.c0, h.two.c1⟩
theorem below_grown1 {X W w1 : World} {row : Option Nat} (h : Below X.heap.size X W) (hg : W.grownBy w1 row) (hr : ∀ k, row = some k → X.heap.size ≤ k) : Below X.heap.size X w1 := h.grown hg h.size hr
theorem giv_new {X w1 : World} {b g st : _} {A1 : Option Addr} {m c1 : Nat} {L : List En} (ho : w1.ownsRow b 26 4 (.slice A1 m c1) m (ef L)) (hb : Below X.heap.size X w1) (hx : X.heap.size ≤ b) (hg : g = w1.heap.size) :
    GivS X st m L (.pointer (some ⟨g, 0, none⟩)) (w1.alloc (.cells #[.int .i64 st, .slice A1 m c1] 24)) :=
  ⟨g, A1, c1, rfl, hg ▸ Blk.new w1 _ _, (own_base hx ho).alloc _, hb.alloc hb.size _, by have := hb.size; omega⟩
theorem giv_set {X w1 : World} {b g st : _} {A1 : Option Addr} {m c1 : Nat} {L : List En} (ho : w1.ownsRow b 26 4 (.slice A1 m c1) m (ef L)) (hb : Below X.heap.size X w1) (hx : X.heap.size ≤ b) (kt : Blk w1 g 24 #[.int .i64 0, .slice none 0 0]) (hg : X.heap.size ≤ g) :
    GivS X st m L (.pointer (some ⟨g, 0, none⟩)) ((w1.setCell ⟨g, 0, none⟩ (.int .i64 st)).setCell ⟨g, 1, none⟩ (.slice A1 m c1)) := by
  have hne : (Value.slice A1 m c1).ownBlock ≠ some g := own_blk_ne ho kt (by decide)
  refine ⟨g, A1, c1, rfl, ?_, ownsRow_setCell_other (ownsRow_setCell_other (own_base hx ho) hne _) hne _, (hb.setCell (p := ⟨g, 0, none⟩) hg _).setCell (p := ⟨g, 1, none⟩) hg _, hg⟩
  have := (kt.set_ 0 (.int .i64 st)).set_ 1 (.slice A1 m c1)
  simpa using this
theorem fndV_any (r : Option En) : ∃ (x : En) (b : Bool), fndV r = .tuple #[.agg #[.int .i64 x.s, .int .i64 x.h, .int .i64 x.o, .int .i64 x.c], .bool b] := ⟨r.getD zE, r.isSome, rfl⟩
/-- what lies there ahead of the last statement. -/
structure Fin (w W : World) (gt bx by' : Nat) (st : Int) (A A1 Av : Option Addr) (m c c1 mv cv : Nat) (e x : En) (L : List En) (b : Nat) : Prop where
  fg : Blk W gt 24 #[.int .i64 st, .slice A1 m c1]
  fs : Blk W w.heap.size 24 #[.int .i64 st, .slice A m c]
  fe : Blk W (w.heap.size + 1) 26 #[.int .i64 e.s, .int .i64 e.h, .int .i64 e.o, .int .i64 e.c]
  fv : Blk W (w.heap.size + 1 + 1) 27 #[.slice Av mv cv]
  fx : Blk W bx 26 #[.int .i64 x.s, .int .i64 x.h, .int .i64 x.o, .int .i64 x.c]
  fy : Blk W by' 26 #[.int .i64 x.s, .int .i64 x.h, .int .i64 x.o, .int .i64 x.c]
  row : W.ownsRow b 26 4 (.slice A1 m c1) m (ef L)
  bel : Below w.heap.size w W
theorem keepF {w W w' : World} {gt bx by' : Nat} {st : Int} {A A1 Av : Option Addr} {m c c1 mv cv : Nat} {e x : En} {L : List En} {b : Nat} (h : Fin w W gt bx by' st A A1 Av m c c1 mv cv e x L b) (hb : Below W.heap.size W w') :
    w'.cell? ⟨gt, 0, none⟩ = some (.int .i64 st) ∧ w'.cell? ⟨gt, 1, none⟩ = some (.slice A1 m c1) ∧ w'.cell? ⟨w.heap.size, 0, none⟩ = some (.int .i64 st) ∧ w'.cell? ⟨w.heap.size, 1, none⟩ = some (.slice A m c) ∧
    w'.cell? ⟨w.heap.size + 1, 0, none⟩ = some (.int .i64 e.s) ∧ w'.cell? ⟨w.heap.size + 1, 1, none⟩ = some (.int .i64 e.h) ∧ w'.cell? ⟨w.heap.size + 1, 2, none⟩ = some (.int .i64 e.o) ∧ w'.cell? ⟨w.heap.size + 1, 3, none⟩ = some (.int .i64 e.c) ∧
    w'.cell? ⟨w.heap.size + 1 + 1, 0, none⟩ = some (.slice Av mv cv) ∧
    w'.cell? ⟨bx, 0, none⟩ = some (.int .i64 x.s) ∧ w'.cell? ⟨bx, 1, none⟩ = some (.int .i64 x.h) ∧ w'.cell? ⟨bx, 2, none⟩ = some (.int .i64 x.o) ∧ w'.cell? ⟨bx, 3, none⟩ = some (.int .i64 x.c) ∧
    w'.cell? ⟨by', 0, none⟩ = some (.int .i64 x.s) ∧ w'.cell? ⟨by', 1, none⟩ = some (.int .i64 x.h) ∧ w'.cell? ⟨by', 2, none⟩ = some (.int .i64 x.o) ∧ w'.cell? ⟨by', 3, none⟩ = some (.int .i64 x.c) ∧ Below W.heap.size W w' := by
  have g := (h.fg.below hb h.fg.lt).two
  have s := (h.fs.below hb h.fs.lt).two
  have e := (h.fe.below hb h.fe.lt).four
  have x := (h.fx.below hb h.fx.lt).four
  have y := (h.fy.below hb h.fy.lt).four
  exact ⟨g.c0, g.c1, s.c0, s.c1, e.c0, e.c1, e.c2, e.c3, (h.fv.below hb h.fv.lt).cell 0, x.c0, x.c1, x.c2, x.c3, y.c0, y.c1, y.c2, y.c3, hb⟩
theorem lastF {a0 a1 a2 a3 a4 a5 a6 a7 a8 a9 a10 a11 a12 a13 a14 a15 a16 B : Prop} (h : a0 ∧ a1 ∧ a2 ∧ a3 ∧ a4 ∧ a5 ∧ a6 ∧ a7 ∧ a8 ∧ a9 ∧ a10 ∧ a11 ∧ a12 ∧ a13 ∧ a14 ∧ a15 ∧ a16 ∧ B) : B := h.2.2.2.2.2.2.2.2.2.2.2.2.2.2.2.2.2
theorem own_fresh (w : World) (g base : Nat) (h : g = w.heap.size) (hb : base ≤ g) : (w.alloc (.cells #[] 26)).ownsRow base 26 4 (.slice (some ⟨g, 0, none⟩) 0 0) 0 [] := by
  subst h
  exact own_base hb (own_made0 w _ 4)
set_option maxRecDepth 100000 in
set_option maxHeartbeats 8000000 in
theorem walk (w : World) (st : Int) (A Av : Option Addr) (m c mv cv : Nat) (L : List En) (e : En) (l : List Int) (hr : Reads w w.heap.size 4 A m (ef L)) (hm : m * 32 ≤ 140737488351232) (hv : Reads w w.heap.size 1 Av mv (ints l)) (hmv : mv ≤ 140737488351232) :
    Calls Try.prog 3 #[siteV st A m c, e.v, .slice Av mv cv] w fun r w' => r = .returned (.bool true) ∧ Below w.heap.size w w' := by
  obtain ⟨i26, hi, hz0, hz1, hz2⟩ := info_parts info26
  have hl := reads_len hr
  have hmf : ∀ (fn : Fn) (first cap : Array Value) (w : World), (Instr.makeFunc fn first cap).run Try.prog w = .ok (.func fn first cap) w := fun _ _ _ _ => rfl
  unfold siteV En.v at *
  have HR := Lib.hid hr
  have HV := Lib.hid hv
  have HL := Lib.hid hl
  clear hr hv hl
  go_enter Try.func3, Try.ntmps3
  have HR3 := Lib.hid (((HR.out.alloc (Nat.le_refl _) (.cells #[.int .i64 st, .slice A m c] 24)).alloc (by simp) (.cells #[.int .i64 e.s, .int .i64 e.h, .int .i64 e.o, .int .i64 e.c] 26)).alloc (by simp; omega) (.cells #[.slice Av mv cv] 27))
  have HS3 := Lib.hid (((Blk.new w 24 #[.int .i64 st, .slice A m c]).alloc (.cells #[.int .i64 e.s, .int .i64 e.h, .int .i64 e.o, .int .i64 e.c] 26)).alloc (.cells #[.slice Av mv cv] 27))
  have HE1 := Lib.hid (ef_one L)
  go_upto_region 1 with fail
  go_cut [7] (fun s7 wx => GivS (((w.alloc (.cells #[.int .i64 st, .slice A m c] 24)).alloc (.cells #[.int .i64 e.s, .int .i64 e.h, .int .i64 e.o, .int .i64 e.c] 26)).alloc (.cells #[.slice Av mv cv] 27)) st m L s7 wx)
  case first =>
    go_region_held3 (fun w' => w'.cell? ⟨w.heap.size, 0, none⟩ = some (.int .i64 st) ∧ w'.cell? ⟨w.heap.size, 1, none⟩ = some (.slice A m c)) (first | exact ⟨by assumption, by assumption⟩ | exact keep2 HS3.out | exact keep2 HS3.out.drew | exact keep2 (HS3.out.alloc _) | exact keep2 (HS3.out.alloc _).drew | exact keep2 ((HS3.out.alloc _).alloc _) | exact keep2 ((HS3.out.alloc _).alloc _).drew | exact keep2 kb | exact keep2 (kb.alloc _) | exact keep2 ((kb.far (by simp only []; omega) _).far (by simp only []; omega) _) | exact keep2 ((kb.far (by simp; omega) _).far (by simp; omega) _) | exact keep2 ((kb.far (by simp) _).far (by simp) _)) (first | (refine step_append_any _ rfl (.tmp 15) (.tmp 17) 22 rfl (w.heap.size + 3) 26 i26 _ 4 32 Try.underlying22 hi hz0 hz1 hz2 rfl (by decide) (.slice (some ⟨w.heap.size + 3, 0, none⟩) 0 0) 0 [] rfl ((own_fresh _ _ (w.heap.size + 3) (by simp) (by omega)).drew) w.heap.size A m c (ef L) rfl ((HR3.out.alloc (by simp; omega) _).drew) HE1.out (by unfold maxLen; omega) (by omega) (by simp) ?_; intro v1 w1 hown hgrow hat; rw [Nat.zero_add, List.nil_append] at hown; obtain ⟨A1, c1, rfl, _⟩ := own_slice hown; clear hat; have kb := Blk.grown ((HS3.out.alloc _).drew) hgrow (by simp [Value.ownBlock]); obtain ⟨k0, k1, _, _⟩ := kb.two; have hB := below_grown1 ((below_alloc (Below.refl _ _) _).drew) hgrow (fun k hk => by simp [Value.ownBlock] at hk; subst hk; simp)) | (refine step_append_any _ rfl (.tmp 15) (.tmp 17) 22 rfl (w.heap.size + 3) 26 i26 _ 4 32 Try.underlying22 hi hz0 hz1 hz2 rfl (by decide) (.slice (some ⟨w.heap.size + 3, 0, none⟩) 0 0) 0 [] rfl (((own_fresh _ _ (w.heap.size + 3) (by simp) (by omega)).alloc _).drew) w.heap.size A m c (ef L) rfl (((HR3.out.alloc (by simp; omega) _).alloc (by simp; omega) _).drew) HE1.out (by unfold maxLen; omega) (by omega) (by simp) ?_; intro v1 w1 hown hgrow hat; rw [Nat.zero_add, List.nil_append] at hown; obtain ⟨A1, c1, rfl, _⟩ := own_slice hown; clear hat; have kb := Blk.grown (((HS3.out.alloc _).alloc _).drew) hgrow (by simp [Value.ownBlock]); obtain ⟨k0, k1, _, _⟩ := kb.two; have hB := below_grown1 ((below_alloc (below_alloc (Below.refl _ _) _) _).drew) hgrow (fun k hk => by simp [Value.ownBlock] at hk; subst hk; simp); have kt := Blk.grown (blk_at _ (w.heap.size + 1 + 1 + 1 + 1) 24 #[.int .i64 0, .slice none 0 0] (by simp)).drew hgrow (by simp [Value.ownBlock]); obtain ⟨t0, t1, f0, f1⟩ := kt.two) | (refine step_append_any _ rfl (.tmp 15) (.tmp 17) 22 rfl (w.heap.size + 3) 26 i26 _ 4 32 Try.underlying22 hi hz0 hz1 hz2 rfl (by decide) (.slice (some ⟨w.heap.size + 4, 0, none⟩) 0 0) 0 [] rfl ((own_fresh _ (w.heap.size + 4) (w.heap.size + 3) (by simp) (by omega)).drew) w.heap.size A m c (ef L) rfl (((HR3.out.alloc (by simp; omega) _).alloc (by simp; omega) _).drew) HE1.out (by unfold maxLen; omega) (by omega) (by simp) ?_; intro v1 w1 hown hgrow hat; rw [Nat.zero_add, List.nil_append] at hown; obtain ⟨A1, c1, rfl, _⟩ := own_slice hown; clear hat; have kb := Blk.grown (((HS3.out.alloc _).alloc _).drew) hgrow (by simp [Value.ownBlock]); obtain ⟨k0, k1, _, _⟩ := kb.two; have hB := below_grown1 ((below_alloc (below_alloc (Below.refl _ _) _) _).drew) hgrow (fun k hk => by simp [Value.ownBlock] at hk; subst hk; simp); have kt := Blk.grown ((blk_at _ (w.heap.size + 1 + 1 + 1) 24 #[.int .i64 0, .slice none 0 0] (by simp)).alloc _).drew hgrow (by simp [Value.ownBlock]); obtain ⟨t0, t1, f0, f1⟩ := kt.two))
    all_goals go_wp2_with fail
    all_goals go_meet
    all_goals first | exact giv_new hown hB (by simp) rfl | exact giv_set hown hB (by simp) kt (by simp) | exact giv_set hown hB (by simp) kt (by simp; omega)
  case rest =>
    obtain ⟨gt, A1, c1, rfl, hG⟩ := hcut
    have AL := Lib.hid alive15
    have hE3 : Blk (((w.alloc (.cells #[.int .i64 st, .slice A m c] 24)).alloc (.cells #[.int .i64 e.s, .int .i64 e.h, .int .i64 e.o, .int .i64 e.c] 26)).alloc (.cells #[.slice Av mv cv] 27)) (w.heap.size + 1) 26 #[.int .i64 e.s, .int .i64 e.h, .int .i64 e.o, .int .i64 e.c] := (blk_at _ _ _ _ (by simp)).alloc _
    have hV3 : Blk (((w.alloc (.cells #[.int .i64 st, .slice A m c] 24)).alloc (.cells #[.int .i64 e.s, .int .i64 e.h, .int .i64 e.o, .int .i64 e.c] 26)).alloc (.cells #[.slice Av mv cv] 27)) (w.heap.size + 1 + 1) 27 #[.slice Av mv cv] := blk_at _ _ _ _ (by simp)
    have hX : Below w.heap.size w (((w.alloc (.cells #[.int .i64 st, .slice A m c] 24)).alloc (.cells #[.int .i64 e.s, .int .i64 e.h, .int .i64 e.o, .int .i64 e.c] 26)).alloc (.cells #[.slice Av mv cv] 27)) := below_alloc (below_alloc (below_alloc (Below.refl _ _) _) _) _
    have hs3 := HS3.out
    obtain ⟨X, hXX⟩ : ∃ X, (((w.alloc (.cells #[.int .i64 st, .slice A m c] 24)).alloc (.cells #[.int .i64 e.s, .int .i64 e.h, .int .i64 e.o, .int .i64 e.c] 26)).alloc (.cells #[.slice Av mv cv] 27)) = X := ⟨_, rfl⟩
    rw [hXX] at hG hE3 hV3 hX hs3
    have hvc := hV3.below hG.bel hV3.lt
    have hbc : Below w.heap.size w wc := hX.trans (hG.bel.mono hX.size)
    obtain ⟨x, ib, hfx⟩ := fndV_any (fnd (fits (has l) e.s) L)
    have hF0 : Fin w wc gt gt gt st A A1 Av m c c1 mv cv e x L X.heap.size → True := fun _ => trivial
    have KF := find_calls wc st e.s A1 m c1 L 8 #[.pointer (some ⟨w.heap.size + 1 + 1, 0, none⟩)] (has l) (asks8 hvc ((HV.out.below hbc).more hbc.size) hmv) (Reads.of_own hG.row) (by omega)
    have KR := fun w1 (h : Below wc.heap.size wc w1) => rfind_calls w1 st e.s A Av m c mv cv L l ((HV.out.below (hbc.trans (h.mono hbc.size))).more (hbc.trans (h.mono hbc.size)).size) hmv ((HR.out.below (hbc.trans (h.mono hbc.size))).more (hbc.trans (h.mono hbc.size)).size) (by omega)
    rw [hfx] at KF KR
    unfold siteV at KF KR
    replace KF := Lib.hid KF
    replace KR := Lib.hid KR
    have hse := hs3.below hG.bel hs3.lt
    have hee := hE3.below hG.bel hE3.lt
    obtain ⟨g0, g1, _, _⟩ := hG.t.two
    obtain ⟨s0, s1, _, _⟩ := hse.two
    obtain ⟨e0, e1, e2, e3, _, _, _, _⟩ := hee.four
    have v0 := hvc.cell 0
    simp only [List.getElem?_toArray, List.getElem?_cons_zero] at v0
    have HGh := Lib.hid hG
    have HSe := Lib.hid hse
    have HEe := Lib.hid hee
    have HVc := Lib.hid hvc
    have HBc := Lib.hid hbc
    have q0 := hse.lt
    have q1 := hee.lt
    have q2 := hvc.lt
    have q3 := hG.t.lt
    clear hG hE3 hV3 hX hs3 hXX hvc hbc hF0 hse hee hfx
    go_upto_region 5 with (first | (go_at_call 10; (with_reducible refine KF.out.mono ?_); rintro r w1 ⟨rfl, hb1⟩; obtain ⟨g0', g1', _, _⟩ := (HGh.out.t.below hb1 HGh.out.t.lt).two; obtain ⟨s0', s1', _, _⟩ := (HSe.out.below hb1 HSe.out.lt).two; obtain ⟨e0', e1', e2', e3', _, _, _, _⟩ := (HEe.out.below hb1 HEe.out.lt).four; have v0' := (HVc.out.below hb1 HVc.out.lt).cell 0; simp only [List.getElem?_toArray, List.getElem?_cons_zero] at v0'; have p0 := Nat.lt_of_lt_of_le q0 hb1.size; have p1 := Nat.lt_of_lt_of_le q1 hb1.size; have p2 := Nat.lt_of_lt_of_le q2 hb1.size; have p3 := Nat.lt_of_lt_of_le q3 hb1.size) | (go_at_call 11; (with_reducible refine (KR.out _ (below_alloc hb1 _)).mono ?_); rintro r w2 ⟨rfl, hb2⟩))
    have hF : Fin w (w2.alloc (.cells #[.int .i64 x.s, .int .i64 x.h, .int .i64 x.o, .int .i64 x.c] 26)) gt w1.heap.size w2.heap.size st A A1 Av m c c1 mv cv e x L X.heap.size := by
      have hb12 : Below wc.heap.size wc w2 := hb1.trans ((below_alloc (Below.refl _ _) _).trans (hb2.mono (le_alloc (Nat.le_refl _) _)) |>.mono hb1.size)
      exact ⟨(HGh.out.t.below hb12 HGh.out.t.lt).alloc _, (HSe.out.below hb12 HSe.out.lt).alloc _, (HEe.out.below hb12 HEe.out.lt).alloc _, (HVc.out.below hb12 HVc.out.lt).alloc _, ((Blk.new w1 _ _).below hb2 (Blk.new w1 _ _).lt).alloc _, Blk.new w2 _ _, (own_below hb12 HGh.out.row).alloc _, (HBc.out.trans (hb12.mono HBc.out.size)).alloc (HBc.out.trans (hb12.mono HBc.out.size)).size _⟩
    obtain ⟨bx, hbx⟩ : ∃ bx, w1.heap.size = bx := ⟨_, rfl⟩
    obtain ⟨by', hby⟩ : ∃ by', w2.heap.size = by' := ⟨_, rfl⟩
    obtain ⟨W5, hW5⟩ : ∃ W5, (w2.alloc (.cells #[.int .i64 x.s, .int .i64 x.h, .int .i64 x.o, .int .i64 x.c] 26)) = W5 := ⟨_, rfl⟩
    rw [hbx, hby, hW5] at hF
    rw [hbx, hby, hW5]
    clear hbx hby hW5 hb1 hb2 g0 g1 s0 s1 e0 e1 e2 e3 v0 g0' g1' s0' s1' e0' e1' e2' e3' v0' p0 p1 p2 p3 q0 q1 q2 q3
    obtain ⟨st', K, hle⟩ : ∃ st' K, learn (has l) st L e = (st', K) := ⟨_, _, rfl⟩
    obtain ⟨n1, hn1⟩ : ∃ n1, K.length = n1 := ⟨_, rfl⟩
    have hn14 : n1 ≤ 4 := by
      rw [← hn1]
      have h := congrArg (fun q => q.2.length) hle
      simp only at h
      rw [← h]
      unfold learn
      split
      · show List.length _ ≤ 4
        simp
      · unfold after
        split
        · show List.length _ ≤ 4
          simp
        · split
          · show (L.filter (fun x => !del (has l) e x) ++ [e]).length ≤ 4
            omega
          · show (L.filter (fun x => !del (has l) e x) ++ [e]).length ≤ 4
            omega
    have KL := Lib.hid (fun w' (h : Below W5.heap.size W5 w') => (show Calls Try.prog 14 #[.agg #[.int .i64 st, .slice A1 m c1], .agg #[.int .i64 e.s, .int .i64 e.h, .int .i64 e.o, .int .i64 e.c], .func (.func 8) #[] #[.pointer (some ⟨w.heap.size + 1 + 1, 0, none⟩)]] w' fun r w'' => ∃ A2 c2, r = .returned (.agg #[.int .i64 st', .slice A2 n1 c2]) ∧ w''.ownsRow w'.heap.size 26 4 (.slice A2 n1 c2) n1 (ef K) ∧ Below w'.heap.size w' w'' from by
      have q := learn_calls w' st A1 m c1 L e 8 #[.pointer (some ⟨w.heap.size + 1 + 1, 0, none⟩)] (has l) (asks8 (hF.fv.below h hF.fv.lt) ((HV.out.below (hF.bel.trans (h.mono hF.bel.size))).more (hF.bel.trans (h.mono hF.bel.size)).size) hmv) (Reads.of_own (own_below h hF.row)) hm
      rw [hle] at q
      exact q.mono fun r w'' z => forward_site z hn1))
    have KL2 := Lib.hid (fun w' (h : Below W5.heap.size W5 w') => (show Calls Try.prog 15 #[.agg #[.int .i64 st, .slice A m c], .agg #[.int .i64 e.s, .int .i64 e.h, .int .i64 e.o, .int .i64 e.c], .slice Av mv cv] w' fun r w'' => ∃ A2 c2, r = .returned (.agg #[.int .i64 st', .slice A2 n1 c2]) ∧ w''.ownsRow w'.heap.size 26 4 (.slice A2 n1 c2) n1 (ef K) ∧ Below w'.heap.size w' w'' from by
      have q := rlearn_calls w' st A Av m c mv cv L l e ((HV.out.below (hF.bel.trans (h.mono hF.bel.size))).more (hF.bel.trans (h.mono hF.bel.size)).size) hmv ((HR.out.below (hF.bel.trans (h.mono hF.bel.size))).more (hF.bel.trans (h.mono hF.bel.size)).size) hm
      rw [hle] at q
      exact q.mono fun r w'' z => forward_site z hn1))
    have KS := Lib.hid (fun w' A2 c2 A3 c3 (h2 : Reads w' w'.heap.size 4 A2 n1 (ef K)) (h3 : Reads w' w'.heap.size 4 A3 n1 (ef K)) => (show Calls Try.prog 13 #[.agg #[.int .i64 st', .slice A2 n1 c2], .agg #[.int .i64 st', .slice A3 n1 c3]] w' fun r w'' => r = .returned (.bool true) ∧ Below w'.heap.size w' w'' from by
      have q := same_calls w' st' st' A2 A3 n1 c2 n1 c3 K K h2 h3 (by omega) (by omega)
      have z : sameS st' st' K K = true := by unfold sameS; simp
      rw [z] at q
      exact q))
    have KS2 := Lib.hid (fun w' (h : Below W5.heap.size W5 w') => (show Calls Try.prog 13 #[.agg #[.int .i64 st, .slice A1 m c1], .agg #[.int .i64 st, .slice A m c]] w' fun r w'' => r = .returned (.bool true) ∧ Below w'.heap.size w' w'' from by
      have q := same_calls w' st st A1 A m c1 m c L L (Reads.of_own (own_below h hF.row)) ((HR.out.below (hF.bel.trans (h.mono hF.bel.size))).more (hF.bel.trans (h.mono hF.bel.size)).size) (by omega) (by omega)
      have z : sameS st st L L = true := by unfold sameS; simp
      rw [z] at q
      exact q))
    have hg := fun op x y xs ys w => run_guard26 op x y xs ys w
    have heq := eql_en x x
    rw [decide_eq_true rfl] at heq
    have HFin := Lib.hid hF
    have HB5 := Lib.hid hF.bel
    clear hF hle hn1
    go_region_held3 (fun w' => w'.cell? ⟨gt, 0, none⟩ = some (.int .i64 st) ∧ w'.cell? ⟨gt, 1, none⟩ = some (.slice A1 m c1) ∧ w'.cell? ⟨w.heap.size, 0, none⟩ = some (.int .i64 st) ∧ w'.cell? ⟨w.heap.size, 1, none⟩ = some (.slice A m c) ∧ w'.cell? ⟨w.heap.size + 1, 0, none⟩ = some (.int .i64 e.s) ∧ w'.cell? ⟨w.heap.size + 1, 1, none⟩ = some (.int .i64 e.h) ∧ w'.cell? ⟨w.heap.size + 1, 2, none⟩ = some (.int .i64 e.o) ∧ w'.cell? ⟨w.heap.size + 1, 3, none⟩ = some (.int .i64 e.c) ∧ w'.cell? ⟨w.heap.size + 1 + 1, 0, none⟩ = some (.slice Av mv cv) ∧ w'.cell? ⟨bx, 0, none⟩ = some (.int .i64 x.s) ∧ w'.cell? ⟨bx, 1, none⟩ = some (.int .i64 x.h) ∧ w'.cell? ⟨bx, 2, none⟩ = some (.int .i64 x.o) ∧ w'.cell? ⟨bx, 3, none⟩ = some (.int .i64 x.c) ∧ w'.cell? ⟨by', 0, none⟩ = some (.int .i64 x.s) ∧ w'.cell? ⟨by', 1, none⟩ = some (.int .i64 x.h) ∧ w'.cell? ⟨by', 2, none⟩ = some (.int .i64 x.o) ∧ w'.cell? ⟨by', 3, none⟩ = some (.int .i64 x.c) ∧ Below W5.heap.size W5 w') (first | exact keepF HFin.out (Below.refl _ _) | exact keepF HFin.out (Below.refl _ _).drew | exact keepF HFin.out (below_via (lastF (by assumption)) hb6) | exact keepF HFin.out (below_via (lastF (by assumption)) hb7) | exact keepF HFin.out (below_via (lastF (by assumption)) hb8) | exact keepF HFin.out (below_via (lastF (by assumption)) hb9) | assumption)
      (first | (go_at_call 12; refine (AL.out _).mono ?_; rintro r w6 ⟨rfl, hb6⟩) | (go_at_call 14; refine (KL.out _ (lastF (by assumption))).mono ?_; rintro r w7 ⟨A2, c2, rfl, ho2, hb7⟩) | (go_at_call 15; refine (KL2.out _ (lastF (by assumption))).mono ?_; rintro r w8 ⟨A3, c3, rfl, ho3, hb8⟩) | (go_at_call 13; with_reducible first | (refine (KS.out _ _ _ _ _ (Reads.of_own (own_below hb8 ho2)) (Reads.of_own ho3)).mono ?_; rintro r w9 ⟨rfl, hb9⟩) | (refine (KS2.out _ (lastF (by assumption))).mono ?_; rintro r w9 ⟨rfl, hb9⟩)))
    all_goals
      have hfin := below_via HB5.out (lastF (by assumption))
      have HFI := Lib.hid hfin
      clear hfin
      go_wp2
      go_ret
      exact ⟨rfl, HFI.out⟩
theorem call {H : Type} {enc : TypeId × Value → H} {W : World} {base : Nat} {v0 : Value} {d0 : DataW H} {p0 : List MemPlace} {v1 : Value} {d1 : DataW H} {p1 : List MemPlace} {v2 : Value} {d2 : DataW H} {p2 : List MemPlace}
    (o0 : Value.okWide Try.prog W .any base 24 v0) (h0 : DataW.Trod enc Try.prog W 0 (fun _ => true) true 24 v0 d0 p0) (o1 : Value.okWide Try.prog W .any base 26 v1) (h1 : DataW.Trod enc Try.prog W 0 (fun _ => true) true 26 v1 d1 p1) (o2 : Value.okWide Try.prog W .any base 27 v2) (h2 : DataW.Trod enc Try.prog W 0 (fun _ => true) true 27 v2 d2 p2) (z0 : ∀ n ∈ d0.weights Try.prog 24, n ≤ reachBytes) (z1 : ∀ n ∈ d1.weights Try.prog 26, n ≤ reachBytes) (z2 : ∀ n ∈ d2.weights Try.prog 27, n ≤ reachBytes) :
    Calls Try.prog 3 #[v0, v1, v2] W fun e w' => e = .returned (.bool true) ∧ Below W.heap.size W w' := by
  obtain ⟨st, A, n, c, L, rfl, hr, hm⟩ := open_site o0 h0 z0
  obtain ⟨e, rfl⟩ := open_entry o1 h1
  obtain ⟨a', len', cap', rfl⟩ := okWide_slice Try.underlying27 o2
  obtain ⟨fuel', h'⟩ := h2
  obtain ⟨A', n', c', l, hv', hr', hm'⟩ := open_intsR (x := (d2, p2)) h' z2
  rw [hv']
  exact walk W st A A' n c n' c' L e l hr hm hr' (by omega)
theorem own : ownKnob Try.prog.godebug = none := by kernel_rfl
theorem laidOut : laidOutB Try.prog = true := by kernel_rfl
set_option maxHeartbeats 0 in
/-- what the walk gives. -/
theorem contract (H : Type) (enc : TypeId × Value → H) (W : World) (base : Nat) (args : Array Value) (ds gs : List (DataW H)) (before : List MemPlace)
    (hval : ∀ (j : Nat) t v, Try.f3.params[j]? = some t → args[j]? = some v → Value.okWide Try.prog W .any base t v)
    (hW : DataW.Whole enc Try.prog Try.f3.params.toList Rows.cachesLearnSpec.vars false W args.toList ds gs before) (hsz : (DataW.weightsEach Try.prog (Try.f3.params.toList ++ Rows.cachesLearnSpec.plain.varTypes Try.prog) (ds ++ gs)).all (· ≤ reachBytes) = true) :
    Calls Try.prog 3 args W fun e W' => ∃ v, e = .returned v ∧ Rows.cachesLearnSpec.post enc Try.prog Try.f3 false true false false W args v W' := by
  have hW' := hW
  obtain ⟨p, q, hA0, hV, rfl, hfz, hnd⟩ := hW
  have hA : DataW.TrodAll enc Try.prog W 0 (fun _ => true) true Try.f3.params.toList args.toList ds p := hA0
  rw [Try.params3] at hA hval hsz
  obtain ⟨v0, vs0, d0, ds0, p0, q0, hargs, rfl, rfl, h0, r0⟩ := trodAll_cons hA
  obtain ⟨v1, vs1, d1, ds1, p1, q1, rfl, rfl, rfl, h1, r1⟩ := trodAll_cons r0
  obtain ⟨v2, vs2, d2, ds2, p2, q2, rfl, rfl, rfl, h2, r2⟩ := trodAll_cons r1
  obtain ⟨rfl, rfl, rfl⟩ := trodAll_nil r2
  obtain rfl : args = #[v0, v1, v2] := by cases args; simp_all
  obtain ⟨rfl, rfl⟩ := trodVars_none hV
  clear hA0
  simp only [List.append_nil] at hW'
  have lt0 : ∀ x ∈ p0, x.block < W.heap.size := fun x hx => hW'.lt x (by simp [hx])
  have lt1 : ∀ x ∈ p1, x.block < W.heap.size := fun x hx => hW'.lt x (by simp [hx])
  have lt2 : ∀ x ∈ p2, x.block < W.heap.size := fun x hx => hW'.lt x (by simp [hx])
  refine (call (hval 0 24 v0 rfl rfl) h0 (hval 1 26 v1 rfl rfl) h1 (hval 2 27 v2 rfl rfl) h2 (fun n hn => by have := List.all_eq_true.1 hsz n (DataW.weights_mem_each (j := 0) (t := 24) rfl rfl n hn); simpa using this) (fun n hn => by have := List.all_eq_true.1 hsz n (DataW.weights_mem_each (j := 1) (t := 26) rfl rfl n hn); simpa using this) (fun n hn => by have := List.all_eq_true.1 hsz n (DataW.weights_mem_each (j := 2) (t := 27) rfl rfl n hn); simpa using this)).mono fun e W' ⟨he, bel⟩ => ?_
  subst he
  exact ⟨_, rfl, _, _, _, [], _, [], hW', (trodAll_cons_mk (shut_bool Try.underlying4 _) trodAll_mk0), (trodAll_cons_mk (Below.trod laidOut (by kernel_rfl) (of_decide_eq_true (by kernel_rfl)) h0 bel lt0) (trodAll_cons_mk (Below.trod laidOut (by kernel_rfl) (of_decide_eq_true (by kernel_rfl)) h1 bel lt1) (trodAll_cons_mk (Below.trod laidOut (by kernel_rfl) (of_decide_eq_true (by kernel_rfl)) h2 bel lt2) trodAll_mk0))), rfl, bel.frame _, fun h => by cases h⟩
set_option maxRecDepth 100000 in
theorem lifted (os : Os) (started : os.Started) (H : Type) (enc : TypeId × Value → H) :
    ReturnsInHanded {} Try.checked os 3 .any (Rows.cachesLearnSpec.pre6 enc Try.prog Try.f3 Rows.cachesLearnRow.domain false) (Rows.cachesLearnSpec.post enc Try.prog Try.f3 false true false false) := by
  refine returnsInHanded_of_change_sized (C := Try.checked) own started (by kernel_rfl) Try.func3
    (ChangeSpec.witness6 (enc := enc) (C := Try.checked) false ⟨#[], #[.agg #[.int .i64 0, .slice none 0 0], .agg #[.int .i64 0, .int .i64 0, .int .i64 0, .int .i64 0], .slice none 0 0], []⟩ 8 (by kernel_rfl) (by kernel_rfl) (by kernel_rfl) (by kernel_rfl)) ?_
  intro W base args ds gs before hval0 hW hcnd hsz _
  exact contract H enc W base args ds gs before hval0 hW hsz
set_option maxHeartbeats 0 in
theorem over : Rows.cachesLearnRow.holds Try.pinned (OpenSpec.ofChange Rows.cachesLearnSpec) :=
  OpenClaim.holds_of_wide 3 Try.f3 rfl rfl rfl rfl rfl rfl rfl ⟨rfl, rfl, rfl, rfl, rfl⟩ rfl rfl rfl rfl rfl (by as_aux_lemma => kernel_rfl) Try.func3 (by as_aux_lemma => kernel_rfl)
    (of_decide_eq_true (by as_aux_lemma => kernel_rfl)) (by as_aux_lemma => unfold Func.isWrapper; first | (rw [if_pos (by decide +kernel)]; kernel_rfl) | (rw [if_neg (by decide +kernel)]; exact ⟨rfl, rfl⟩))
    (fun os started H enc _ => lifted os started H enc)
theorem proved : Rows.CachesLearnSaid :=
  over
#print axioms proved
end Go.Proofs.Ythkmmbalodedkaa.cachesLearn
namespace Go.Proofs.Ythkmmbalodedkaa
theorem cachesLearn_holds : Rows.CachesLearnSaid := cachesLearn.proved
end Go.Proofs.Ythkmmbalodedkaa
