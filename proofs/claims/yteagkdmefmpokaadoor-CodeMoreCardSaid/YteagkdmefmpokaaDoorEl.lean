/- Code: the next places. -/
import Derived.Test.YteagkdmefmpokaaDoorEk
namespace Go.Proofs.YteagkdmefmpokaaDoor
open Go.RowKit Go
set_option linter.unusedVariables false
set_option linter.unusedSimpArgs false
/-- does a handler catch at a place? -/
def hit (x : Int) (t : Tr) : Bool := decide (t.x ≤ x) && decide (x < t.y)
def fst (x : Int) (T : List Tr) : List Int := match T.find? (hit x) with | some t => [t.z] | none => []
def ahead (nc : Nat) (e : En) (x : Int) : List Int := if ends e.s = false ∧ x + 1 < nc then [x + 1] else []
/-- the places behind one. -/
def nxt (nc : Nat) (C : List En) (T : List Tr) (x : Int) : List Int :=
  if 0 ≤ x ∧ x < nc then (match C[x.toNat]? with | some e => (ahead nc e x ++ jmp1 e) ++ fst x T | none => []) else []
theorem fst_cons {x : Int} {t : Tr} {T : List Tr} : fst x (t :: T) = if hit x t then [t.z] else fst x T := by
  unfold fst; rw [List.find?_cons]; cases hit x t <;> rfl
theorem fst_len (x : Int) (T : List Tr) : (fst x T).length ≤ 1 := by unfold fst; split <;> simp
theorem ahead_len (nc : Nat) (e : En) (x : Int) : (ahead nc e x).length ≤ 1 := by unfold ahead; split <;> simp
theorem hit_false {x : Int} {t : Tr} (h : hit x t = false) : x < t.x ∨ (¬ x < t.x ∧ t.y ≤ x) := by simp only [hit, Bool.and_eq_false_iff, decide_eq_false_iff_not] at h; omega
theorem hit_true {x : Int} {t : Tr} (h : hit x t = true) : ¬ x < t.x ∧ ¬ t.y ≤ x := by simp only [hit, Bool.and_eq_true, decide_eq_true_eq] at h; omega
theorem jmp1_if (e : En) : jmp1 e = if (e.s == 57) = true then [e.h] else if (e.s == 58) = true then [e.o] else if (e.s == 59) = true then [e.o] else [] := by
  unfold jmp1; by_cases h1 : e.s = 57 <;> by_cases h2 : e.s = 58 <;> by_cases h3 : e.s = 59 <;> simp [h1, h2, h3]
theorem jmp1_len (e : En) : (jmp1 e).length ≤ 1 := by unfold jmp1; split <;> (try split) <;> simp
/-- a list of the call's own, and what lies beneath. -/
def Has (w : World) (h : Hd) (e : En) (wx : World) (v : Value) (L : List Int) : Prop :=
  ∃ W1 A n c, v = .slice A n c ∧ Bag W1 wx (.slice A n c) n L ∧ Below w.heap.size w W1 ∧ Blk W1 w.heap.size 36 h.b ∧ Blk W1 (w.heap.size + 1) 38 #[.int .i64 e.s, .int .i64 e.h, .int .i64 e.o, .int .i64 e.c]
theorem Has.cells {w wx : World} {h : Hd} {e : En} {v : Value} {L : List Int} (H : Has w h e wx v L) : wx.cell? ⟨w.heap.size, 4, none⟩ = some (.slice h.Ac h.nc h.cc) ∧ wx.cell? ⟨w.heap.size, 7, none⟩ = some (.slice h.Ah h.nh h.ch) ∧ w.heap.size < wx.heap.size ∧
    wx.cell? ⟨w.heap.size + 1, 0, none⟩ = some (.int .i64 e.s) ∧ wx.cell? ⟨w.heap.size + 1, 1, none⟩ = some (.int .i64 e.h) ∧ wx.cell? ⟨w.heap.size + 1, 2, none⟩ = some (.int .i64 e.o) ∧ w.heap.size + 1 < wx.heap.size := by
  obtain ⟨W1, A, n, c, _, hB, _, b1, b2⟩ := H
  have k1 := b1.below hB.bel b1.lt
  have k2 := b2.below hB.bel b2.lt
  exact ⟨(k1.cell 4).trans rfl, (k1.cell 7).trans rfl, k1.lt, (k2.cell 0).trans rfl, (k2.cell 1).trans rfl, (k2.cell 2).trans rfl, k2.lt⟩
set_option maxRecDepth 100000 in
set_option maxHeartbeats 8000000 in
theorem next_in (w : World) (h : Hd) (C : List En) (T : List Tr) (hi : h.Is w C T) (k : Nat) (hk : k < h.nc) :
    Calls Tryd.prog 14 #[h.v, .int .i64 k] w fun e w' => ∃ A n c L, e = .returned (.slice A n c) ∧ Reads w' w'.heap.size 1 A n (ints L) ∧ ((∀ y, y ∈ L ↔ y ∈ nxt h.nc C T k) ∧ Strict L) ∧ n ≤ 3 ∧ Below w.heap.size w w' := by
  obtain ⟨i3, hi3, hz30, hz31, hz32⟩ := info_parts info3
  have hlc := reads_len hi.code
  have hlt := reads_len3 hi.hand
  have HI := Lib.hid (fun (W : World) (b : Below w.heap.size w W) => hi.later b)
  have HLT := Lib.hid hlt
  have hnc := hi.nc
  have hnh := hi.nh
  have KW := Lib.hid (fun W => by have := within_calls W k h.nc; rw [within_lt (by omega) (by omega)] at this; exact this)
  obtain ⟨e, hx⟩ : ∃ e, C[k]? = some e := ⟨_, List.getElem?_eq_getElem (by omega)⟩
  obtain ⟨b, off, hA, hbl, ⟨c0, c1, c2, c3⟩⟩ := reads_at hi.code hx
  have HN := Lib.hid (show nxt h.nc C T k = (ahead h.nc e k ++ jmp1 e) ++ fst k T by unfold nxt; rw [if_pos ⟨by omega, by omega⟩]; simp [hx])
  have hk' : (k : Int) < h.nc := by omega
  have hb1 : b < w.heap.size + 1 := by omega
  have hbx : h.box w = w.alloc (.cells #[.string h.nm, .int .i64 h.pa, .int .i64 h.re, .bool h.ge, .slice (some ⟨b, off, none⟩) h.nc h.cc, .slice h.Ak h.nk h.ck, .slice h.Ap h.np h.cp, .slice h.Ah h.nh h.ch] 36) := by unfold Hd.box Hd.b; rw [hA]
  have KE := ends_calls (e.al (h.box w) 38) e.s
  have B1 := Bag.none_ (e.al (h.box w) 38)
  have H0 : Has w h e (e.al (h.box w) 38) (.slice none 0 0) [] := ⟨_, none, 0, 0, rfl, B1, below_alloc (below_new _ _) _, (Blk.new w 36 h.b).alloc _, by have := Blk.new (h.box w) 38 #[.int .i64 e.s, .int .i64 e.h, .int .i64 e.o, .int .i64 e.c]; rw [size_alloc] at this; exact this⟩
  rw [hbx] at KE H0
  unfold En.al at KE H0
  have H0' := Lib.hid H0
  have hah := show ahead h.nc e k = if ends e.s = false ∧ (k : Int) + 1 < h.nc then [(k : Int) + 1] else [] from rfl
  unfold Hd.v
  rw [hA]
  have HA := Lib.hid hA
  clear hi hlc hlt hx hA hbx B1 H0
  have hw1 : IntKind.i64.wrap ((k : Int) + 1) = (k : Int) + 1 := IntWalk.i64_in _ (by omega)
  obtain ⟨en, he⟩ : ∃ en, ends e.s = en := ⟨_, rfl⟩
  rw [he] at KE hah
  have KE' := Lib.hid KE
  have HAE := Lib.hid hah
  have HEN := Lib.hid he
  clear KE hah he
  go_enter Tryd.func14, Tryd.ntmps14
  go_upto_region 5 with (first | (go_at_call 24; (with_reducible refine (KW.out _).mono ?_); rintro r w' ⟨rfl, rfl⟩))
  go_cut [31] from 20 to 31 (fun sl wx => ∃ z, sl = .bool z ∧ z = (!en && decide ((k : Int) + 1 < h.nc)) ∧ Has w h e wx (.slice none 0 0) [])
  case first =>
    go_wp2_with (go_at_call 25; (with_reducible refine KE'.out.mono ?_); rintro r w' ⟨rfl, rfl⟩)
    all_goals
      go_meet
      exact ⟨_, rfl, by simp [*], H0'.out⟩
  case rest =>
    obtain ⟨z, rfl, hz, H1⟩ := hcut
    have hAz : ahead h.nc e k = if z = true then [(k : Int) + 1] else [] := by rw [HAE.out, hz]; cases en <;> simp
    have HAZ := Lib.hid hAz
    have HZ := Lib.hid hz
    have hkz : z = true → (k : Int) + 1 < h.nc := by intro e; rw [e] at hz; cases en <;> simp at hz; omega
    have HKZ := Lib.hid hkz
    clear hAz hz hkz
    rename World => wd
    have HH := Lib.hid H1
    obtain ⟨W1, A1, n1, q1, hv, hB, hb1, k1, k2⟩ := H1
    cases hv
    have HB := Lib.hid hB
    have HB1 := Lib.hid hb1
    have HK1 := Lib.hid k1
    have HK2 := Lib.hid k2
    have hbl := hB.len
    clear hB hb1 k1 k2 c0 c1 c2 c3
    go_upto_if 31 with (fail)
    go_cut [6] from 32 to 36 (fun s6 wx => Has w h e wx s6 (ahead h.nc e k))
    case first =>
      have ro := Lib.hid (HB.out.later (below_new _ (.cells #[.int .i64 ((k : Int) + 1)] 3))).own
      cases z
      · have hA2 := Lib.hid (HAZ.out.trans (if_neg (by simp)))
        go_wp2_with fail
        go_meet
        exact ⟨W1, _, _, _, rfl, by rw [hA2.out]; exact HB.out, HB1.out, HK1.out, HK2.out⟩
      · have hA2 := Lib.hid (HAZ.out.trans (if_pos rfl))
        go_wp2_with (first | (at_builtin; refine wpList_append_any _ rfl (.tmp 32) (.tmp 35) 39 rfl _ 3 i3 _ 1 8 Tryd.underlying39 hi3 hz30 hz31 hz32 rfl (by decide) _ _ _ rfl ro.out _ _ 1 1 [.int .i64 ((k : Int) + 1)] rfl (Reads_at_int wd _ _ (by rfl)) (one_int ((k : Int) + 1)) (by unfold maxLen; omega) (by omega) (by have := HB.out.bel.size; exact le_alloc this _) ?_; intro v1 w1 hown hgrow _; have M1 := Lib.hid ((HB.out.later (below_new _ _)).grow hgrow hown); obtain ⟨A1, cc1, rfl, _⟩ := own_slice hown; clear hown hgrow))
        go_meet
        exact ⟨W1, _, _, _, rfl, by rw [hA2.out]; exact M1.out, HB1.out, HK1.out, HK2.out⟩
    case rest =>
      clear HB HK1 HK2 HB1 hbl HH
      rename World => we
      have HH := Lib.hid hcut
      obtain ⟨p4, p7, plt, y0, y1, y2, ylt⟩ := hcut.cells
      obtain ⟨W1, A1, n1, q1, rfl, hB, hb1, k1, k2⟩ := hcut
      have HB := Lib.hid hB
      have HB1 := Lib.hid hb1
      have HK1 := Lib.hid k1
      have HK2 := Lib.hid k2
      have hbl := hB.len
      have hal := ahead_len h.nc e k
      clear hB hb1 k1 k2
      have hj := jmp1_if e
      obtain ⟨t1, g1⟩ : ∃ y, (e.s == 57) = y := ⟨_, rfl⟩
      obtain ⟨t2, g2⟩ : ∃ y, (e.s == 58) = y := ⟨_, rfl⟩
      obtain ⟨t3, g3⟩ : ∃ y, (e.s == 59) = y := ⟨_, rfl⟩
      rw [g1, g2, g3] at hj
      have HJ := Lib.hid hj
      have hjl := jmp1_len e
      clear hj
      go_upto_block 0 with (fail)
      go_cut [6] from 39 to 53 (fun s6 wx => Has w h e wx s6 (ahead h.nc e k ++ jmp1 e))
      case first =>
        have ro := Lib.hid (HB.out.later (below_new _ (.cells #[.int .i64 e.h] 3))).own
        have ro2 := Lib.hid (HB.out.later (below_new _ (.cells #[.int .i64 e.o] 3))).own
        go_wp2_with (first | (at_builtin; refine wpList_append_any _ rfl (.tmp 41) (.tmp 44) 39 rfl _ 3 i3 _ 1 8 Tryd.underlying39 hi3 hz30 hz31 hz32 rfl (by decide) _ _ _ rfl ro.out _ _ 1 1 [.int .i64 e.h] rfl (Reads_at_int we _ _ (by rfl)) (one_int e.h) (by unfold maxLen; omega) (by omega) (by have := HB.out.bel.size; exact le_alloc this _) ?_; intro v1 w1 hown hgrow _; have M1 := Lib.hid ((HB.out.later (below_new _ _)).grow hgrow hown); obtain ⟨A1, cc1, rfl, _⟩ := own_slice hown; clear hown hgrow) | (at_builtin; refine wpList_append_any _ rfl (.tmp 49) (.tmp 52) 39 rfl _ 3 i3 _ 1 8 Tryd.underlying39 hi3 hz30 hz31 hz32 rfl (by decide) _ _ _ rfl ro2.out _ _ 1 1 [.int .i64 e.o] rfl (Reads_at_int we _ _ (by rfl)) (one_int e.o) (by unfold maxLen; omega) (by omega) (by have := HB.out.bel.size; exact le_alloc this _) ?_; intro v1 w1 hown hgrow _; have M2 := Lib.hid ((HB.out.later (below_new _ _)).grow hgrow hown); obtain ⟨A1, cc1, rfl, _⟩ := own_slice hown; clear hown hgrow))
        · go_meet
          exact ⟨W1, _, _, _, rfl, by rw [HJ.out, if_pos (by assumption)]; exact M1.out, HB1.out, HK1.out, HK2.out⟩
        · have q1 : t1 = false := by assumption
          have q2 : t2 = true := by assumption
          go_meet
          exact ⟨W1, _, _, _, rfl, by rw [HJ.out, q1, q2, if_neg (by simp), if_pos rfl]; exact M2.out, HB1.out, HK1.out, HK2.out⟩
        · have q1 : t2 = true := by assumption
          have q2 : t2 = false := by assumption
          rw [q1] at q2
          cases q2
        · have q1 : t1 = false := by assumption
          have q2 : t2 = false := by assumption
          have q3 : t3 = true := by assumption
          go_meet
          exact ⟨W1, _, _, _, rfl, by rw [HJ.out, q1, q2, q3, if_neg (by simp), if_neg (by simp), if_pos rfl]; exact M2.out, HB1.out, HK1.out, HK2.out⟩
        · have q1 : t1 = false := by assumption
          have q2 : t2 = false := by assumption
          have q3 : t3 = false := by assumption
          go_meet
          exact ⟨W1, _, _, _, rfl, by rw [HJ.out, q1, q2, q3, if_neg (by simp), if_neg (by simp), if_neg (by simp), List.append_nil]; exact HB.out, HB1.out, HK1.out, HK2.out⟩
      case rest =>
        clear HB HK1 HK2 HB1 hbl HH p4 p7 plt y0 y1 y2 ylt g1 g2 g3
        rename World => wf
        obtain ⟨p4, p7, plt, y0, y1, y2, ylt⟩ := hcut.cells
        have HH := Lib.hid hcut
        obtain ⟨W1, A1, n1, q1, rfl, hB, hb1, k1, k2⟩ := hcut
        have HB := Lib.hid hB
        have HB1 := Lib.hid hb1
        have HK1 := Lib.hid k1
        have HK2 := Lib.hid k2
        have hbl := hB.len
        rw [List.length_append] at hbl
        obtain ⟨Ah, hAh⟩ : ∃ A, h.Ah = A := ⟨_, rfl⟩
        rw [hAh] at p7
        have HAh := Lib.hid hAh
        clear hB hb1 k1 k2 y0 y1 y2 ylt hAh
        go_upto_block 1 with (fail)
        go_cut [6] from 57 to 76 (fun s6 wx => Has w h e wx s6 ((ahead h.nc e k ++ jmp1 e) ++ fst k T))
        case first =>
          go_wp2_with fail
          go_loopg [6, 57] h.nh (fun f s6 i wr => ∃ j : Nat, i = .int .i64 j ∧ s6 = .slice A1 n1 q1 ∧ j + f = h.nh ∧ fst k T = fst k (T.drop j) ∧ Below wf.heap.size wf wr)
          case atStart => exact ⟨0, rfl, rfl, by omega, rfl, Below.refl _ _⟩
          case round =>
            obtain ⟨j, rfl, rfl, hf, he, hBl⟩ := hrel
            have HBl := Lib.hid hBl
            have HFF := Lib.hid hf
            by_cases hj : j < h.nh
            · obtain ⟨t, hx⟩ : ∃ t, T[j]? = some t := ⟨_, List.getElem?_eq_getElem (by have := HLT.out; omega)⟩
              obtain ⟨bt, offt, hAt, hblt, ⟨d0, d1, d2⟩⟩ := reads_at3 (HI.out wr (below_via (below_via HB1.out HB.out.bel) hBl)).hand hx
              have hj' : (j : Int) < h.nh := by omega
              obtain ⟨f', hf'⟩ : ∃ f', gk = f' + 1 := ⟨gk - 1, by omega⟩
              have HF' := Lib.hid hf'
              have hall := Lib.hid (he.trans (show fst k (T.drop j) = if hit k t then [t.z] else fst k (T.drop (j + 1)) by rw [drop_at hx, fst_cons]))
              have HAL := Lib.hid (below_new wr (.cells #[.int .i64 t.x, .int .i64 t.y, .int .i64 t.z] 49))
              have HM := Lib.hid (HB.out.later (below_via hBl HAL.out))
              have ro := Lib.hid (HM.out.later (below_new _ (.cells #[.int .i64 t.z] 3))).own
              rw [HAh.out] at hAt
              subst hAt
              clear hx hf hf' he hBl
              cases hh : hit k t
              · have HH2 := Lib.hid hh
                have hh2 := hit_false hh
                clear hh
                rcases hh2 with hh2 | ⟨hh2, hh3⟩
                all_goals
                  go_wp2_with fail
                  go_roundg f'
                  case measure => have := HF'.out; omega
                  case rel => exact ⟨j + 1, by simp, rfl, by have := HF'.out; have := HFF.out; omega, by rw [hall.out, HH2.out]; rfl, below_via HBl.out HAL.out⟩
              · have HH2 := Lib.hid hh
                obtain ⟨hh2, hh3⟩ := hit_true hh
                clear hh
                go_wp2_with (first | (at_builtin; refine wpList_append_any _ rfl (.tmp 71) (.tmp 74) 39 rfl _ 3 i3 _ 1 8 Tryd.underlying39 hi3 hz30 hz31 hz32 rfl (by decide) _ _ _ rfl ro.out _ _ 1 1 [.int .i64 t.z] rfl (Reads_at_int (wr.alloc (.cells #[.int .i64 t.x, .int .i64 t.y, .int .i64 t.z] 49)) _ _ (size_alloc _ _)) (one_int t.z) (by unfold maxLen; omega) (by omega) (by have := HM.out.bel.size; exact le_alloc this _) ?_; intro v1 w1 hown hgrow _; have M3 := Lib.hid ((HM.out.later (below_new _ _)).grow hgrow hown); obtain ⟨A2, cc1, rfl, _⟩ := own_slice hown; clear hown hgrow))
                go_meet
                exact ⟨W1, _, _, _, rfl, by rw [hall.out, HH2.out, if_pos rfl]; exact M3.out, HB1.out, HK1.out, HK2.out⟩
            · have hj' : ¬ (j : Int) < h.nh := by omega
              have hfin : fst k T = [] := by rw [he, List.drop_of_length_le (by have := HLT.out; omega)]; rfl
              have HFIN := Lib.hid hfin
              have HM := Lib.hid (HB.out.later hBl)
              clear hf he hBl hfin
              go_wp2_with fail
              go_meet
              exact ⟨W1, _, _, _, rfl, by rw [HFIN.out, List.append_nil]; exact HM.out, HB1.out, HK1.out, HK2.out⟩
        case rest =>
          clear HB HK1 HK2 HB1 hbl HH p4 p7 plt
          rename World => wg
          obtain ⟨W1, A1, n1, q1, rfl, hB, hb1, k1, k2⟩ := hcut
          have HB1 := Lib.hid hb1
          have hbl := hB.len
          rw [List.length_append, List.length_append] at hbl
          have hfl := fst_len k T
          have KS := Lib.hid (sort_calls _ _ _ _ _ _ hB (by omega))
          have KC := Lib.hid (fun (w1 : World) (L1 : List Int) (h1 : Bag W1 w1 (.slice A1 n1 q1) n1 L1) (h2 : Rising L1) => compact2_calls _ w1 _ _ _ L1 h1 h2 (by omega))
          clear hB hb1 k1 k2
          go_wp2_with (first | (go_at_call 26; (with_reducible refine KS.out.mono ?_); rintro r w1 ⟨rfl, L1, hb1, hr1, hm1⟩) | (go_at_call 27; (with_reducible refine (KC.out _ L1 hb1 hr1).mono ?_); rintro r w2 ⟨n2, L2, rfl, hb2, hn2, hr2, hm2⟩))
          go_ret
          exact ⟨_, _, _, _, rfl, hb2.rd, ⟨fun y => by rw [hm2, hm1, HN.out], hr2⟩, by omega, below_via HB1.out hb2.bel⟩
end Go.Proofs.YteagkdmefmpokaaDoor
