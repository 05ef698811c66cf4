/- Caches: Learn walked. -/
import Derived.Test.YtnljofhpofeppaaCe
namespace Go.Proofs.Ytnljofhpofeppaa.Cz
open Go.RowKit Go
set_option linter.unusedVariables false
set_option linter.unusedSimpArgs false
/-- what a site is behind an entry more, of the entries that stay. -/
def after (st : Int) (K : List En) : Int × List En :=
  if 4 < K.length then (3, []) else if 1 < K.length ∨ st = 2 then (2, K) else (1, K)
def learn (V : Int → Bool) (st : Int) (L : List En) (e : En) : Int × List En :=
  if st = 3 then (3, []) else after st (L.filter (fun x => !del V e x) ++ [e])
theorem after_many (st : Int) (K : List En) (e : En) (h : 4 < (K.length : Int) + 1) : after st (K ++ [e]) = (3, []) := by
  unfold after; rw [if_pos (by simp; omega)]
theorem after_two (st : Int) (K : List En) (e : En) (h : ¬ 4 < (K.length : Int) + 1) (h2 : 1 < (K.length : Int) + 1) : after st (K ++ [e]) = (2, K ++ [e]) := by
  unfold after; rw [if_neg (by simp; omega), if_pos (.inl (by simp; omega))]
theorem after_few (st : Int) (K : List En) (e : En) (h : ¬ 1 < (K.length : Int) + 1) (h2 : (st == 2) = true) : after st (K ++ [e]) = (2, K ++ [e]) := by
  unfold after; rw [if_neg (by simp; omega), if_pos (.inr (by simpa using h2))]
theorem after_one (st : Int) (K : List En) (e : En) (h : ¬ 1 < (K.length : Int) + 1) (h2 : (st == 2) = false) : after st (K ++ [e]) = (1, K ++ [e]) := by
  have h2 : ¬ st = 2 := by simpa using h2
  unfold after; rw [if_neg (by simp; omega), if_neg (by rintro (q | q); (simp at q; omega); exact h2 q)]
/-- a call answers a site that reads so. -/
def SiteIs (w : World) (x : Int × List En) (r : Ending) (w' : World) : Prop :=
  ∃ A c, r = .returned (siteV x.1 A x.2.length c) ∧ w'.ownsRow w.heap.size 39 4 (.slice A x.2.length c) x.2.length (ef x.2) ∧ x.2.length ≤ 4 ∧ Below w.heap.size w w'
theorem nil_site {w w' : World} (st : Int) (h : Below w.heap.size w w') : SiteIs w (st, []) (.returned (siteV st none 0 0)) w' := ⟨none, 0, rfl, World.ownsRow_nil _ _ _ _, by simp, h⟩
theorem dels_of {w : World} {F : Nat} {caps : Array Value} {V : Int → Bool} {e : En} {ge gv : Nat} (HA : Asks w F caps V) (h1 : Blk w ge 39 e.b) (h2 : Blk w gv 40 #[.func (.func F) #[] caps]) : Dels w ge gv (del V e) :=
  fun w' x hb => del_calls w' F caps V (HA.later hb) x e ge gv (h1.below hb h1.lt) (h2.below hb h2.lt)
/-- the memory when Learn has laid its arguments. -/
def LW (w : World) (st : Int) (A : Option Addr) (m c : Nat) (e : En) (f : Value) : World :=
  (((w.alloc (.cells #[.int .i64 st, .slice A m c] 36)).alloc (.cells #[.int .i64 e.s, .int .i64 e.h, .int .i64 e.o, .int .i64 e.c] 39)).alloc (.cells #[f] 40)).alloc (.cells #[.int .i64 0, .slice none 0 0] 36)
structure LWf (w W0 : World) (st : Int) (A : Option Addr) (m c : Nat) (e : En) (f : Value) : Prop where
  sz : W0.heap.size = w.heap.size + 4
  bel : Below w.heap.size w W0
  b0 : Blk W0 w.heap.size 36 #[.int .i64 st, .slice A m c]
  b1 : Blk W0 (w.heap.size + 1) 39 e.b
  b2 : Blk W0 (w.heap.size + 2) 40 #[f]
  b3 : Blk W0 (w.heap.size + 3) 36 #[.int .i64 0, .slice none 0 0]
theorem lwf (w : World) (st : Int) (A : Option Addr) (m c : Nat) (e : En) (f : Value) : LWf w (LW w st A m c e f) st A m c e f := by
  unfold LW
  refine ⟨by simp, ((((Below.refl _ _).alloc (Nat.le_refl _) _).alloc (by simp) _).alloc (by simp; omega) _).alloc (by simp; omega) _, ?_, ?_, ?_, ?_⟩
  · exact (((Blk.new w 36 _).alloc _).alloc _).alloc _
  · have := (((Blk.new (w.alloc (.cells #[.int .i64 st, .slice A m c] 36)) 39 e.b).alloc (.cells #[f] 40)).alloc (.cells #[.int .i64 0, .slice none 0 0] 36))
    simpa [En.b] using this
  · have := ((Blk.new ((w.alloc (.cells #[.int .i64 st, .slice A m c] 36)).alloc (.cells #[.int .i64 e.s, .int .i64 e.h, .int .i64 e.o, .int .i64 e.c] 39)) 40 #[f]).alloc (.cells #[.int .i64 0, .slice none 0 0] 36))
    simpa using this
  · have := (Blk.new (((w.alloc (.cells #[.int .i64 st, .slice A m c] 36)).alloc (.cells #[.int .i64 e.s, .int .i64 e.h, .int .i64 e.o, .int .i64 e.c] 39)).alloc (.cells #[f] 40)) 36 #[.int .i64 0, .slice none 0 0])
    simpa using this
structure Two (w : World) (g : Nat) (a b : Value) : Prop where
  c0 : w.cell? ⟨g, 0, none⟩ = some a
  c1 : w.cell? ⟨g, 1, none⟩ = some b
  f0 : w.frozen? ⟨g, 0, none⟩ = false
  f1 : w.frozen? ⟨g, 1, none⟩ = false
theorem Blk.two {w : World} {g : Nat} {t : TypeId} {a b : Value} (h : Blk w g t #[a, b]) : Two w g a b := ⟨h.cell 0, h.cell 1, h.frozen 0, h.frozen 1⟩
theorem own_slice {w : World} {base e s : Nat} {v : Value} {n : Nat} {xs : List Value} (h : w.ownsRow base e s v n xs) : ∃ A c, v = .slice A n c ∧ Reads w w.heap.size s A n xs := by
  rcases h.2 with ⟨h1, h2⟩ | ⟨g, cap, cur, h1, h2, h3⟩
  · refine ⟨none, 0, by rw [h1, h2], ?_⟩
    subst h2
    have : xs = [] := List.eq_nil_of_length_eq_zero (by simpa using h.1)
    subst this
    exact ⟨by simp, fun h => absurd h (by omega)⟩
  · exact ⟨_, _, h1, Reads.of_own (h1 ▸ h)⟩
theorem le_alloc {w : World} {b : Nat} (h : b ≤ w.heap.size) (o : Obj) : b ≤ (w.alloc o).heap.size := by simp only [World.alloc]; rw [Array.size_push]; omega
theorem Reads_new (w : World) (e : En) : Reads (w.alloc (.cells #[.int .i64 e.s, .int .i64 e.h, .int .i64 e.o, .int .i64 e.c] 39)) (w.heap.size + 1) 4 (some ⟨w.heap.size, 0, none⟩) 1 [.int .i64 e.s, .int .i64 e.h, .int .i64 e.o, .int .i64 e.c] := by
  refine ⟨rfl, fun _ => ⟨_, rfl, by show w.heap.size < w.heap.size + 1; omega, fun j u hj => ?_⟩⟩
  have e1 : (⟨w.heap.size, 0, none⟩ : Addr).add j = ⟨w.heap.size, j, none⟩ := by unfold Addr.add; split <;> simp_all
  rw [e1]; refine ((Blk.new w 39 e.b).cell j).trans ?_
  exact (List.getElem?_toArray ..).trans hj
theorem site_end {w : World} {base base' g n c : Nat} {A : Option Addr} {K : List En} {e : En} {a b : Value} (h : w.ownsRow base 39 4 (.slice A n c) n (ef K ++ [.int .i64 e.s, .int .i64 e.h, .int .i64 e.o, .int .i64 e.c])) (hg : g < base) (hb : base' ≤ base) :
    ((w.setCell ⟨g, 0, none⟩ a).setCell ⟨g, 1, none⟩ b).ownsRow base' 39 4 (.slice A n c) n (ef K ++ ef [e]) :=
  own_base hb (ownsRow_setCell_below (a := ⟨g, 1, none⟩) (ownsRow_setCell_below (a := ⟨g, 0, none⟩) h hg a) hg b)
/-- what the walk reads of its own variables. -/
structure Vars (w w2 : World) (st : Int) (e : En) : Prop where
  s : w2.cell? ⟨w.heap.size, 0, none⟩ = some (.int .i64 st)
  e : Four w2 (w.heap.size + 1) (.int .i64 e.s) (.int .i64 e.h) (.int .i64 e.o) (.int .i64 e.c)
  r : Two w2 (w.heap.size + 1 + 1 + 1) (.int .i64 0) (.slice none 0 0)
theorem LWf.vars {w W0 w2 : World} {st : Int} {A : Option Addr} {m c : Nat} {e : En} {f : Value} (h : LWf w W0 st A m c e f) (hb : Below W0.heap.size W0 w2) : Vars w w2 st e :=
  ⟨((h.b0.below hb h.b0.lt).cell 0), (h.b1.below hb h.b1.lt).four, (h.b3.below hb h.b3.lt).two⟩
set_option maxRecDepth 100000 in
set_option maxHeartbeats 4000000 in
theorem learn_calls (w : World) (st : Int) (A : Option Addr) (m c : Nat) (L : List En) (e : En) (F : Nat) (caps : Array Value) (V : Int → Bool) (HA : Asks w F caps V) (hr : Reads w w.heap.size 4 A m (ef L)) (hm : m * 32 ≤ 140737488351232) :
    Calls Try.prog 11 #[siteV st A m c, e.v, .func (.func F) #[] caps] w (SiteIs w (learn V st L e)) := by
  have hW := lwf w st A m c e (.func (.func F) #[] caps)
  have hl := reads_len hr
  by_cases hst : st = 3
  · subst hst
    have hln : learn V 3 L e = (3, []) := if_pos rfl
    rw [hln]
    have HB := Lib.hid hW.bel
    unfold siteV En.v LW at *
    clear hW hl hr HA hln
    go_enter Try.func11, Try.ntmps11
    go_wp2
    refine bodyPost_ret (v := siteV 3 none 0 0) (by simp [results, Try.results11, go_sem, siteV]) rfl (nil_site 3 ?_)
    exact ((((Below.refl _ _).alloc (Nat.le_refl _) _).alloc (by simp) _).alloc (by simp; omega) _).alloc (by simp; omega) _
  · obtain ⟨i26, hi, hz0, hz1, hz2⟩ := info_parts info26
    have hln : learn V st L e = after st (L.filter (fun x => !del V e x) ++ [e]) := if_neg hst
    rw [hln]
    have hstb : (st == 3) = false := by simpa using hst
    have hmf : ∀ (fn : Fn) (first cap : Array Value) (w : World), (Instr.makeFunc fn first cap).run Try.prog w = .ok (.func fn first cap) w := fun _ _ _ _ => rfl
    have CL := clone_calls (LW w st A m c e (.func (.func F) #[] caps)) A m c L ((hr.below hW.bel).more hW.bel.size) hm
    have DL := delete_calls (LW w st A m c e (.func (.func F) #[] caps)) (w.heap.size + 1) (w.heap.size + 2) (del V e) (dels_of (HA.later hW.bel) hW.b1 hW.b2)
    have HL := Lib.hid hl
    generalize hK : L.filter (fun x => !del V e x) = K at *
    have HK := Lib.hid hK
    clear hK
    have HW := Lib.hid hW
    unfold siteV En.v LW delV at *
    replace CL := Lib.hid CL
    replace DL := Lib.hid DL
    have HE1 := Lib.hid (show ∀ u ∈ [Value.int .i64 e.s, .int .i64 e.h, .int .i64 e.o, .int .i64 e.c], u.oneCell' = true by intro u hu; simp at hu; rcases hu with rfl | rfl | rfl | rfl <;> rfl)
    clear hW hl hr HA hln hst
    by_cases hA : 4 < (K.length : Int) + 1
    · have hA1 : 1 < (K.length : Int) + 1 := by omega
      rw [after_many st K e hA]
      go_enter Try.func11, Try.ntmps11
      go_wp2_with (first | (go_at_call 20; (with_reducible refine CL.out.mono ?_); rintro r w1 ⟨v1, rfl, ho1, hb1⟩; have O1 := Lib.hid ho1; have B1 := Lib.hid hb1; clear ho1 hb1) | (go_at_call 19; (with_reducible refine (DL.out w1 B1.out v1 m L O1.out (by omega)).mono ?_); rintro r w2 ⟨v2, m2, rfl, ho2, hm2, hb2⟩; rw [HK.out] at ho2; obtain rfl : m2 = K.length := (by have := ho2.1; rw [ef_length] at this; omega); obtain ⟨_, ⟨x0, x1, x2, x3, _, _, _, _⟩, _⟩ := HW.out.vars hb2; have O2 := Lib.hid (ho2.alloc (.cells #[.int .i64 e.s, .int .i64 e.h, .int .i64 e.o, .int .i64 e.c] 39)); have B2 := Lib.hid hb2; clear ho2 hb2) | (at_builtin; refine wpList_append_any _ rfl (.tmp 17) (.tmp 19) 34 rfl _ 39 i26 _ 4 32 Try.underlying34 hi hz0 hz1 hz2 rfl (by decide) _ _ _ rfl O2.out (w2.heap.size + 1) _ 1 1 [.int .i64 e.s, .int .i64 e.h, .int .i64 e.o, .int .i64 e.c] rfl (Reads_new _ _) HE1.out (by unfold maxLen; omega) (by omega) (le_alloc B2.out.size _) ?_; intro v3 w3 hown hgrow hat; have B3 := (B2.out.alloc B2.out.size _).grown hgrow (le_alloc B2.out.size _) (fun k hk => (O2.out.lt k hk).1); obtain ⟨s0, _, r0, r1, q0, q1⟩ := HW.out.vars B3; obtain ⟨A3, c3, rfl, _⟩ := own_slice hown; have R3 := Lib.hid hown; replace B3 := Lib.hid B3; clear hown hgrow hat))
      refine bodyPost_ret (v := siteV 3 none 0 0) (by simp [results, Try.results11, go_sem, siteV, r0, r1]) rfl (nil_site 3 ?_)
      have hfin := HW.out.bel.trans (B3.out.mono HW.out.bel.size)
      repeat (first | exact hfin | refine Below.setCell ?_ (by show w.heap.size ≤ w.heap.size + 1 + 1 + 1; omega) _)
    · by_cases hB : 1 < (K.length : Int) + 1
      · have hB0 := hB
        rw [after_two st K e hA hB]
        go_enter Try.func11, Try.ntmps11
        go_wp2_with (first | (go_at_call 20; (with_reducible refine CL.out.mono ?_); rintro r w1 ⟨v1, rfl, ho1, hb1⟩; have O1 := Lib.hid ho1; have B1 := Lib.hid hb1; clear ho1 hb1) | (go_at_call 19; (with_reducible refine (DL.out w1 B1.out v1 m L O1.out (by omega)).mono ?_); rintro r w2 ⟨v2, m2, rfl, ho2, hm2, hb2⟩; rw [HK.out] at ho2; obtain rfl : m2 = K.length := (by have := ho2.1; rw [ef_length] at this; omega); obtain ⟨_, ⟨x0, x1, x2, x3, _, _, _, _⟩, _⟩ := HW.out.vars hb2; have O2 := Lib.hid (ho2.alloc (.cells #[.int .i64 e.s, .int .i64 e.h, .int .i64 e.o, .int .i64 e.c] 39)); have B2 := Lib.hid hb2; clear ho2 hb2) | (at_builtin; refine wpList_append_any _ rfl (.tmp 17) (.tmp 19) 34 rfl _ 39 i26 _ 4 32 Try.underlying34 hi hz0 hz1 hz2 rfl (by decide) _ _ _ rfl O2.out (w2.heap.size + 1) _ 1 1 [.int .i64 e.s, .int .i64 e.h, .int .i64 e.o, .int .i64 e.c] rfl (Reads_new _ _) HE1.out (by unfold maxLen; omega) (by omega) (le_alloc B2.out.size _) ?_; intro v3 w3 hown hgrow hat; have B3 := (B2.out.alloc B2.out.size _).grown hgrow (le_alloc B2.out.size _) (fun k hk => (O2.out.lt k hk).1); obtain ⟨s0, _, r0, r1, q0, q1⟩ := HW.out.vars B3; obtain ⟨A3, c3, rfl, _⟩ := own_slice hown; have R3 := Lib.hid hown; replace B3 := Lib.hid B3; clear hown hgrow hat))
        refine bodyPost_ret (v := siteV 2 A3 (K.length + 1) c3) (by simp [results, Try.results11, go_sem, siteV, r0, r1]) rfl ⟨A3, c3, by simp, ?_, by simp; omega, ?_⟩
        · simp only [List.length_append, List.length_singleton, ef_append]
          have hq := R3.out
          exact site_end (e := e) hq (by simp) (by simp; omega)
        · have hfin := HW.out.bel.trans (B3.out.mono HW.out.bel.size)
          repeat (first | exact hfin | refine Below.setCell ?_ (by show w.heap.size ≤ w.heap.size + 1 + 1 + 1; omega) _)
      · cases hs2 : (st == 2)
        · rw [after_one st K e hB hs2]
          go_enter Try.func11, Try.ntmps11
          go_wp2_with (first | (go_at_call 20; (with_reducible refine CL.out.mono ?_); rintro r w1 ⟨v1, rfl, ho1, hb1⟩; have O1 := Lib.hid ho1; have B1 := Lib.hid hb1; clear ho1 hb1) | (go_at_call 19; (with_reducible refine (DL.out w1 B1.out v1 m L O1.out (by omega)).mono ?_); rintro r w2 ⟨v2, m2, rfl, ho2, hm2, hb2⟩; rw [HK.out] at ho2; obtain rfl : m2 = K.length := (by have := ho2.1; rw [ef_length] at this; omega); obtain ⟨_, ⟨x0, x1, x2, x3, _, _, _, _⟩, _⟩ := HW.out.vars hb2; have O2 := Lib.hid (ho2.alloc (.cells #[.int .i64 e.s, .int .i64 e.h, .int .i64 e.o, .int .i64 e.c] 39)); have B2 := Lib.hid hb2; clear ho2 hb2) | (at_builtin; refine wpList_append_any _ rfl (.tmp 17) (.tmp 19) 34 rfl _ 39 i26 _ 4 32 Try.underlying34 hi hz0 hz1 hz2 rfl (by decide) _ _ _ rfl O2.out (w2.heap.size + 1) _ 1 1 [.int .i64 e.s, .int .i64 e.h, .int .i64 e.o, .int .i64 e.c] rfl (Reads_new _ _) HE1.out (by unfold maxLen; omega) (by omega) (le_alloc B2.out.size _) ?_; intro v3 w3 hown hgrow hat; have B3 := (B2.out.alloc B2.out.size _).grown hgrow (le_alloc B2.out.size _) (fun k hk => (O2.out.lt k hk).1); obtain ⟨s0, _, r0, r1, q0, q1⟩ := HW.out.vars B3; obtain ⟨A3, c3, rfl, _⟩ := own_slice hown; have R3 := Lib.hid hown; replace B3 := Lib.hid B3; clear hown hgrow hat))
          refine bodyPost_ret (v := siteV 1 A3 (K.length + 1) c3) (by simp [results, Try.results11, go_sem, siteV, r0, r1]) rfl ⟨A3, c3, by simp, ?_, by simp; omega, ?_⟩
          · simp only [List.length_append, List.length_singleton, ef_append]
            have hq := R3.out
            exact site_end (e := e) hq (by simp) (by simp; omega)
          · have hfin := HW.out.bel.trans (B3.out.mono HW.out.bel.size)
            repeat (first | exact hfin | refine Below.setCell ?_ (by show w.heap.size ≤ w.heap.size + 1 + 1 + 1; omega) _)
        · rw [after_few st K e hB hs2]
          go_enter Try.func11, Try.ntmps11
          go_wp2_with (first | (go_at_call 20; (with_reducible refine CL.out.mono ?_); rintro r w1 ⟨v1, rfl, ho1, hb1⟩; have O1 := Lib.hid ho1; have B1 := Lib.hid hb1; clear ho1 hb1) | (go_at_call 19; (with_reducible refine (DL.out w1 B1.out v1 m L O1.out (by omega)).mono ?_); rintro r w2 ⟨v2, m2, rfl, ho2, hm2, hb2⟩; rw [HK.out] at ho2; obtain rfl : m2 = K.length := (by have := ho2.1; rw [ef_length] at this; omega); obtain ⟨_, ⟨x0, x1, x2, x3, _, _, _, _⟩, _⟩ := HW.out.vars hb2; have O2 := Lib.hid (ho2.alloc (.cells #[.int .i64 e.s, .int .i64 e.h, .int .i64 e.o, .int .i64 e.c] 39)); have B2 := Lib.hid hb2; clear ho2 hb2) | (at_builtin; refine wpList_append_any _ rfl (.tmp 17) (.tmp 19) 34 rfl _ 39 i26 _ 4 32 Try.underlying34 hi hz0 hz1 hz2 rfl (by decide) _ _ _ rfl O2.out (w2.heap.size + 1) _ 1 1 [.int .i64 e.s, .int .i64 e.h, .int .i64 e.o, .int .i64 e.c] rfl (Reads_new _ _) HE1.out (by unfold maxLen; omega) (by omega) (le_alloc B2.out.size _) ?_; intro v3 w3 hown hgrow hat; have B3 := (B2.out.alloc B2.out.size _).grown hgrow (le_alloc B2.out.size _) (fun k hk => (O2.out.lt k hk).1); obtain ⟨s0, _, r0, r1, q0, q1⟩ := HW.out.vars B3; obtain ⟨A3, c3, rfl, _⟩ := own_slice hown; have R3 := Lib.hid hown; replace B3 := Lib.hid B3; clear hown hgrow hat))
          refine bodyPost_ret (v := siteV 2 A3 (K.length + 1) c3) (by simp [results, Try.results11, go_sem, siteV, r0, r1]) rfl ⟨A3, c3, by simp, ?_, by simp; omega, ?_⟩
          · simp only [List.length_append, List.length_singleton, ef_append]
            have hq := R3.out
            exact site_end (e := e) hq (by simp) (by simp; omega)
          · have hfin := HW.out.bel.trans (B3.out.mono HW.out.bel.size)
            repeat (first | exact hfin | refine Below.setCell ?_ (by show w.heap.size ≤ w.heap.size + 1 + 1 + 1; omega) _)
end Go.Proofs.Ytnljofhpofeppaa.Cz
