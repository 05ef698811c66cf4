/- Code: the next places, the document's; no such place. -/
import Derived.Test.YteagkdmefmpokaaDoorEl
namespace Go.Proofs.YteagkdmefmpokaaDoor
open Go.RowKit Go
set_option linter.unusedVariables false
set_option linter.unusedSimpArgs false
theorem nxt_out {nc : Nat} {C : List En} {T : List Tr} {x : Int} (h : x < 0 ∨ (nc : Int) ≤ x) : nxt nc C T x = [] := by unfold nxt; rw [if_neg (by omega)]
set_option maxRecDepth 100000 in
theorem next_out (w : World) (h : Hd) (x : Int) (hx : x < 0 ∨ (h.nc : Int) ≤ x) :
    Calls Tryd.prog 14 #[h.v, .int .i64 x] w fun e w' => e = .returned (.slice none 0 0) ∧ Below w.heap.size w w' := by
  have HBX := Lib.hid (below_new w (.cells h.b 36))
  have KW := Lib.hid (fun W => by have := within_calls W x h.nc; rw [show within x h.nc = false by rcases hx with hx | hx; exact within_neg hx; exact within_ge (by omega)] at this; exact this)
  unfold Hd.v
  unfold Hd.b at HBX
  clear hx
  go_enter Tryd.func14, Tryd.ntmps14
  go_wp2_with (go_at_call 24; (with_reducible refine (KW.out _).mono ?_); rintro r w' ⟨rfl, rfl⟩)
  go_ret
  exact ⟨rfl, HBX.out⟩
set_option maxRecDepth 100000 in
theorem rnext_out (w : World) (h : Hd) (x : Int) (hx : x < 0 ∨ (h.nc : Int) ≤ x) :
    Calls Tryd.prog 16 #[h.v, .int .i64 x] w fun e w' => e = .returned (.slice none 0 0) ∧ Below w.heap.size w w' := by
  have HBX := Lib.hid (below_new w (.cells h.b 36))
  unfold Hd.v
  unfold Hd.b at HBX
  by_cases h0 : x < 0
  · clear hx
    go_enter Tryd.func16, Tryd.ntmps16
    go_wp2_with fail
    go_ret
    exact ⟨rfl, HBX.out⟩
  · have h1 : (h.nc : Int) ≤ x := by omega
    clear hx
    go_enter Tryd.func16, Tryd.ntmps16
    go_wp2_with fail
    go_ret
    exact ⟨rfl, HBX.out⟩
/-- numbers of the call's own, in order, each once: those of a list. -/
def HasS (w : World) (h : Hd) (e : En) (wx : World) (v : Value) (X : List Int) : Prop :=
  ∃ W1 A n c L, v = .slice A n c ∧ Bag W1 wx (.slice A n c) n L ∧ (∀ y, y ∈ L ↔ y ∈ X) ∧ Strict L ∧ n ≤ X.length ∧ Below w.heap.size w W1 ∧ Blk W1 w.heap.size 36 h.b ∧ Blk W1 (w.heap.size + 1) 38 #[.int .i64 e.s, .int .i64 e.h, .int .i64 e.o, .int .i64 e.c]
theorem HasS.cells {w wx : World} {h : Hd} {e : En} {v : Value} {L : List Int} (H : HasS w h e wx v L) : wx.cell? ⟨w.heap.size, 4, none⟩ = some (.slice h.Ac h.nc h.cc) ∧ wx.cell? ⟨w.heap.size, 7, none⟩ = some (.slice h.Ah h.nh h.ch) ∧ w.heap.size < wx.heap.size ∧
    wx.cell? ⟨w.heap.size + 1, 0, none⟩ = some (.int .i64 e.s) ∧ wx.cell? ⟨w.heap.size + 1, 1, none⟩ = some (.int .i64 e.h) ∧ wx.cell? ⟨w.heap.size + 1, 2, none⟩ = some (.int .i64 e.o) ∧ w.heap.size + 1 < wx.heap.size := by
  obtain ⟨W1, A, n, c, L, _, hB, _, _, _, _, b1, b2⟩ := H
  have k1 := b1.below hB.bel b1.lt
  have k2 := b2.below hB.bel b2.lt
  exact ⟨(k1.cell 4).trans rfl, (k1.cell 7).trans rfl, k1.lt, (k2.cell 0).trans rfl, (k2.cell 1).trans rfl, (k2.cell 2).trans rfl, k2.lt⟩
set_option maxRecDepth 100000 in
set_option maxHeartbeats 8000000 in
theorem rnext_in (w : World) (h : Hd) (C : List En) (T : List Tr) (hi : h.Is w C T) (k : Nat) (hk : k < h.nc) :
    Calls Tryd.prog 16 #[h.v, .int .i64 k] w fun e w' => ∃ A n c L, e = .returned (.slice A n c) ∧ Reads w' w'.heap.size 1 A n (ints L) ∧ ((∀ y, y ∈ L ↔ y ∈ nxt h.nc C T k) ∧ Strict L) ∧ n ≤ 3 ∧ Below w.heap.size w w' := by
  have hlc := reads_len hi.code
  have hlt := reads_len3 hi.hand
  have HI := Lib.hid (fun (W : World) (b : Below w.heap.size w W) => hi.later b)
  have HLT := Lib.hid hlt
  have hnc := hi.nc
  have hnh := hi.nh
  obtain ⟨e, hx⟩ : ∃ e, C[k]? = some e := ⟨_, List.getElem?_eq_getElem (by omega)⟩
  obtain ⟨b, off, hA, hbl, ⟨c0, c1, c2, c3⟩⟩ := reads_at hi.code hx
  have HN := Lib.hid (show nxt h.nc C T k = (ahead h.nc e k ++ jmp1 e) ++ fst k T by unfold nxt; rw [if_pos ⟨by omega, by omega⟩]; simp [hx])
  have hk0 : ¬ (k : Int) < 0 := by omega
  have hk' : (k : Int) < h.nc := by omega
  have hb1 : b < w.heap.size + 1 := by omega
  have hbx : h.box w = w.alloc (.cells #[.string h.nm, .int .i64 h.pa, .int .i64 h.re, .bool h.ge, .slice (some ⟨b, off, none⟩) h.nc h.cc, .slice h.Ak h.nk h.ck, .slice h.Ap h.np h.cp, .slice h.Ah h.nh h.ch] 36) := by unfold Hd.box Hd.b; rw [hA]
  have KE := rends_calls (e.al (h.box w) 38) e.s
  have B1 := Bag.none_ (e.al (h.box w) 38)
  have H0 : HasS w h e (e.al (h.box w) 38) (.slice none 0 0) [] := ⟨_, none, 0, 0, [], rfl, B1, fun _ => Iff.rfl, List.Pairwise.nil, Nat.le_refl _, below_alloc (below_new _ _) _, (Blk.new w 36 h.b).alloc _, by have := Blk.new (h.box w) 38 #[.int .i64 e.s, .int .i64 e.h, .int .i64 e.o, .int .i64 e.c]; rw [size_alloc] at this; exact this⟩
  rw [hbx] at KE H0
  unfold En.al at KE H0
  have H0' := Lib.hid H0
  have hah := show ahead h.nc e k = if ends e.s = false ∧ (k : Int) + 1 < h.nc then [(k : Int) + 1] else [] from rfl
  unfold Hd.v
  rw [hA]
  have HA := Lib.hid hA
  have hal := ahead_len h.nc e k
  have hjl := jmp1_len e
  clear hi hlc hlt hx hA hbx B1 H0
  have hw1 : IntKind.i64.wrap ((k : Int) + 1) = (k : Int) + 1 := IntWalk.i64_in _ (by omega)
  obtain ⟨en, he⟩ : ∃ en, ends e.s = en := ⟨_, rfl⟩
  rw [he] at KE hah
  have KE' := Lib.hid KE
  have HAE := Lib.hid hah
  have HEN := Lib.hid he
  clear KE hah he
  go_enter Tryd.func16, Tryd.ntmps16
  go_upto_region 6 with (go_at_call 19; (with_reducible refine KE'.out.mono ?_); rintro r w' ⟨rfl, rfl⟩)
  go_cut [7, 36] from 24 to 36 (fun s7 sl wx => ∃ z, sl = .bool z ∧ z = (!en && decide ((k : Int) + 1 < h.nc)) ∧ HasS w h e wx (.slice none 0 0) [])
  case first =>
    go_wp2_with fail
    all_goals
      go_meet
      exact ⟨_, rfl, by simp [*], H0'.out⟩
  case rest =>
    obtain ⟨z, rfl, hz, H1⟩ := hcut
    have hAz : ahead h.nc e k = if z = true then [] ++ [(k : Int) + 1] else [] := by rw [HAE.out, hz]; cases en <;> simp
    have HAZ := Lib.hid hAz
    clear hAz hz c0 c1 c2 c3
    rename World => wd
    have hcut := H1
    clear H1
    obtain ⟨p4, p7, plt, y0, y1, y2, ylt⟩ := hcut.cells
    obtain ⟨W1, A1, n1, q1, L1, hv, hB, hm1, hs1, hn1, hb1, k1, k2⟩ := hcut
    cases hv
    have HB := Lib.hid hB
    have HB1 := Lib.hid hb1
    have HK1 := Lib.hid k1
    have HK2 := Lib.hid k2
    have HM1 := Lib.hid hm1
    have HS1 := Lib.hid hs1
    have HN1 := Lib.hid hn1
    have hbl := hB.len
    have KP := Lib.hid (fun (x : Int) => put_calls wd none 0 0 L1 x hB.rd (by first | omega | (simp only [List.length_nil, List.length_append] at hn1; omega)))
    clear hB hb1 k1 k2 hm1 hs1 hn1
    go_upto_if 36 with (fail)
    go_cut [5] from 37 to 40 (fun s6 wx => HasS w h e wx s6 (ahead h.nc e k))
    case first =>
      cases z
      · have hA2 := Lib.hid (HAZ.out.trans (if_neg (by simp)))
        go_wp2_with fail
        go_meet
        exact ⟨W1, _, _, _, _, rfl, HB.out, fun y => by rw [HM1.out, hA2.out], HS1.out, by rw [hA2.out]; exact HN1.out, HB1.out, HK1.out, HK2.out⟩
      · have hA2 := Lib.hid (HAZ.out.trans (if_pos rfl))
        go_wp2_with (first | (go_at_call 28; (with_reducible refine (KP.out _).mono ?_); rintro r w1 ⟨v1, m1, rfl, hb1'⟩; have M1 := Lib.hid (hb1'.from HB.out.bel); obtain ⟨A2, cc1, rfl, _⟩ := M1.out.slice; clear hb1'))
        go_meet
        exact ⟨W1, _, _, _, _, rfl, M1.out, fun y => by rw [mem_put, HM1.out, hA2.out]; simp, strict_put HS1.out, by have h1 := M1.out.len; have h2 := HB.out.len; have h3 := len_put ((k : Int) + 1) L1; have h4 := HN1.out; rw [hA2.out, List.length_append]; simp only [List.length_singleton]; omega, HB1.out, HK1.out, HK2.out⟩
    case rest =>
      clear HB HK1 HK2 HB1 HM1 HS1 HN1 hbl KP p4 p7 plt y0 y1 y2 ylt
      rename World => we
      obtain ⟨p4, p7, plt, y0, y1, y2, ylt⟩ := hcut.cells
      obtain ⟨W1, A1, n1, q1, L1, rfl, hB, hm1, hs1, hn1, hb1, k1, k2⟩ := hcut
      have HB := Lib.hid hB
      have HB1 := Lib.hid hb1
      have HK1 := Lib.hid k1
      have HK2 := Lib.hid k2
      have HM1 := Lib.hid hm1
      have HS1 := Lib.hid hs1
      have HN1 := Lib.hid hn1
      have hbl := hB.len
      have KP := Lib.hid (fun (x : Int) => put_calls we A1 n1 q1 L1 x hB.rd (by first | omega | (simp only [List.length_nil, List.length_append] at hn1; omega)))
      clear hB hb1 k1 k2 hm1 hs1 hn1
      have hj := jmp1_if e
      obtain ⟨t1, g1⟩ : ∃ y, (e.s == 57) = y := ⟨_, rfl⟩
      obtain ⟨t2, g2⟩ : ∃ y, (e.s == 58) = y := ⟨_, rfl⟩
      obtain ⟨t3, g3⟩ : ∃ y, (e.s == 59) = y := ⟨_, rfl⟩
      have hx12 : t1 = true → t2 = false ∧ t3 = false := by
        intro h; rw [← g1] at h; rw [← g2, ← g3]; have := eq_of_beq h; rw [this]; exact ⟨rfl, rfl⟩
      have HX12 := Lib.hid hx12
      rw [g1, g2, g3] at hj
      have HJ := Lib.hid hj
      clear hj hx12
      go_upto_region 8 with (fail)
      go_cut [43] from 41 to 43 (fun sl wx => sl = .bool t1 ∧ wx = we)
      case first =>
        go_wp2_with fail
        go_meet
        exact ⟨rfl, rfl⟩
      case rest =>
        obtain ⟨rfl, hw⟩ := hcut
        rw [hw]
        clear hw g1
        go_upto_if 43 with (fail)
        go_cut [5] from 44 to 47 (fun s6 wx => HasS w h e wx s6 (ahead h.nc e k ++ (if t1 = true then [e.h] else [])))
        case first =>
          cases t1
          · go_wp2_with fail
            go_meet
            exact ⟨W1, _, _, _, _, rfl, HB.out, fun y => by rw [HM1.out]; simp, HS1.out, by simp only [Bool.false_eq_true, if_false, List.append_nil]; exact HN1.out, HB1.out, HK1.out, HK2.out⟩
          · go_wp2_with (first | (go_at_call 28; (with_reducible refine (KP.out _).mono ?_); rintro r w1 ⟨v1, m1, rfl, hb1'⟩; have M1 := Lib.hid (hb1'.from HB.out.bel); obtain ⟨A2, cc1, rfl, _⟩ := M1.out.slice; clear hb1'))
            go_meet
            exact ⟨W1, _, _, _, _, rfl, M1.out, fun y => by rw [mem_put, HM1.out]; simp, strict_put HS1.out, by have h1 := M1.out.len; have h2 := HB.out.len; have h3 := len_put e.h L1; have h4 := HN1.out; simp only [if_true, List.length_append, List.length_singleton]; omega, HB1.out, HK1.out, HK2.out⟩
        case rest =>
          clear HB HK1 HK2 HB1 HM1 HS1 HN1 hbl KP p4 p7 plt y0 y1 y2 ylt
          rename World => wh
          have hjl2 : (if t1 = true then [e.h] else []).length ≤ 1 := by split <;> simp
          obtain ⟨p4, p7, plt, y0, y1, y2, ylt⟩ := hcut.cells
          obtain ⟨W1, A1, n1, q1, L1, rfl, hB, hm1, hs1, hn1, hb1, k1, k2⟩ := hcut
          have HB := Lib.hid hB
          have HB1 := Lib.hid hb1
          have HK1 := Lib.hid k1
          have HK2 := Lib.hid k2
          have HM1 := Lib.hid hm1
          have HS1 := Lib.hid hs1
          have HN1 := Lib.hid hn1
          have hbl := hB.len
          have KP := Lib.hid (fun (x : Int) => put_calls wh A1 n1 q1 L1 x hB.rd (by first | omega | (simp only [List.length_nil, List.length_append] at hn1; omega)))
          clear hB hb1 k1 k2 hm1 hs1 hn1
          go_upto_region 10 with (fail)
          go_cut [55] from 48 to 55 (fun sl wx => ∃ z, sl = .bool z ∧ z = (t2 || t3) ∧ wx = wh)
          case first =>
            have HG2 := Lib.hid g2
            go_wp2_with fail
            all_goals
              go_meet
              exact ⟨_, rfl, by simp [*], rfl⟩
          case rest =>
            obtain ⟨z2, rfl, hz2, hw⟩ := hcut
            rw [hw]
            have HZ2 := Lib.hid hz2
            clear hw g2 g3 hz2
            go_upto_if 55 with (fail)
            have hjx : jmp1 e = (if t1 = true then [e.h] else []) ++ (if z2 = true then [e.o] else []) := by
              rw [HJ.out, HZ2.out]
              cases t1
              · cases t2 <;> cases t3 <;> rfl
              · obtain ⟨q1, q2⟩ := HX12.out rfl
                rw [q1, q2]; rfl
            have HJX := Lib.hid hjx
            clear hjx
            go_cut [5] from 56 to 59 (fun s6 wx => HasS w h e wx s6 (ahead h.nc e k ++ jmp1 e))
            case first =>
              cases z2
              · go_wp2_with fail
                go_meet
                exact ⟨W1, _, _, _, _, rfl, HB.out, fun y => by rw [HM1.out, HJX.out]; simp, HS1.out, by rw [HJX.out]; simp only [Bool.false_eq_true, if_false, List.append_nil]; exact HN1.out, HB1.out, HK1.out, HK2.out⟩
              · go_wp2_with (first | (go_at_call 28; (with_reducible refine (KP.out _).mono ?_); rintro r w1 ⟨v1, m1, rfl, hb1'⟩; have M1 := Lib.hid (hb1'.from HB.out.bel); obtain ⟨A2, cc1, rfl, _⟩ := M1.out.slice; clear hb1'))
                go_meet
                exact ⟨W1, _, _, _, _, rfl, M1.out, fun y => by rw [mem_put, HM1.out, HJX.out]; simp [or_assoc], strict_put HS1.out, by have h1 := M1.out.len; have h2 := HB.out.len; have h3 := len_put e.o L1; have h4 := HN1.out; rw [HJX.out]; simp only [if_true, List.length_append, List.length_singleton] at h4 ⊢; omega, HB1.out, HK1.out, HK2.out⟩
            case rest =>
              clear HB HK1 HK2 HB1 HM1 HS1 HN1 hbl KP p4 p7 plt y0 y1 y2 ylt
              rename World => wf
              obtain ⟨p4, p7, plt, y0, y1, y2, ylt⟩ := hcut.cells
              obtain ⟨W1, A1, n1, q1, L1, rfl, hB, hm1, hs1, hn1, hb1, k1, k2⟩ := hcut
              have HB := Lib.hid hB
              have HB1 := Lib.hid hb1
              have HK1 := Lib.hid k1
              have HK2 := Lib.hid k2
              have HM1 := Lib.hid hm1
              have HS1 := Lib.hid hs1
              have HN1 := Lib.hid hn1
              have hbl := hB.len
              have KP := Lib.hid (fun (x : Int) => put_calls wf A1 n1 q1 L1 x hB.rd (by first | omega | (simp only [List.length_nil, List.length_append] at hn1; omega)))
              clear hB hb1 k1 k2 hm1 hs1 hn1
              go_wp2_with fail
              go_loopg [8] h.nh (fun f i wr => ∃ j : Nat, i = .int .i64 j ∧ j + f = h.nh ∧ fst k T = fst k (T.drop j) ∧ Below wf.heap.size wf wr)
              case atStart => exact ⟨0, rfl, by omega, rfl, Below.refl _ _⟩
              case round =>
                obtain ⟨j, rfl, hf, he, hBl⟩ := hrel
                have HBl := Lib.hid hBl
                have HFF := Lib.hid hf
                have p7' := (hBl.cell (p := ⟨w.heap.size, 7, none⟩) plt).trans p7
                by_cases hj : j < h.nh
                · obtain ⟨t, hx⟩ : ∃ t, T[j]? = some t := ⟨_, List.getElem?_eq_getElem (by have := HLT.out; omega)⟩
                  obtain ⟨bt, offt, hAt, hblt, ⟨d0, d1, d2⟩⟩ := reads_at3 (HI.out wr (below_via (below_via HB1.out HB.out.bel) hBl)).hand hx
                  have hj' : (j : Int) < h.nh := by omega
                  obtain ⟨f', hf'⟩ : ∃ f', gk = f' + 1 := ⟨gk - 1, by omega⟩
                  have HF' := Lib.hid hf'
                  have hall := Lib.hid (he.trans (show fst k (T.drop j) = if hit k t then [t.z] else fst k (T.drop (j + 1)) by rw [drop_at hx, fst_cons]))
                  have HAt := Lib.hid hAt
                  rw [hAt] at p7'
                  have HM := Lib.hid (HB.out.later hBl)
                  have hn1' : n1 ≤ 2 := by have := HN1.out; simp only [List.length_append] at this; omega
                  have KQ := Lib.hid (put_calls wr A1 n1 q1 L1 t.z (HB.out.later hBl).rd (by omega))
                  clear hx hf hf' he hBl hAt KP
                  cases hh : hit k t
                  · have HH2 := Lib.hid hh
                    have hh2 := hit_false hh
                    clear hh
                    rcases hh2 with hh2 | ⟨hh2, hh3⟩
                    all_goals
                      go_wp2_with fail
                      go_roundg f'
                      case measure => have := HF'.out; omega
                      case rel => exact ⟨j + 1, by simp, by have := HF'.out; have := HFF.out; omega, by rw [hall.out, HH2.out]; rfl, HBl.out⟩
                  · have HH2 := Lib.hid hh
                    obtain ⟨hh2, hh3⟩ := hit_true hh
                    clear hh
                    go_wp2_with (first | (go_at_call 28; (with_reducible refine KQ.out.mono ?_); rintro r w1 ⟨v1, m1, rfl, hb1'⟩; have M1 := Lib.hid (hb1'.from HM.out.bel); obtain ⟨A2, cc1, rfl, _⟩ := M1.out.slice; clear hb1'))
                    go_ret
                    exact ⟨_, _, _, _, rfl, M1.out.rd, ⟨fun y => by rw [mem_put, HM1.out, HN.out, hall.out, HH2.out, if_pos rfl, List.mem_append (s := ahead h.nc e k ++ jmp1 e)]; simp, strict_put HS1.out⟩, by have h1 := M1.out.len; have h2 := HM.out.len; have h3 := len_put t.z L1; omega, below_via HB1.out M1.out.bel⟩
                · have hj' : ¬ (j : Int) < h.nh := by omega
                  have hfin : fst k T = [] := by rw [he, List.drop_of_length_le (by have := HLT.out; omega)]; rfl
                  have HFIN := Lib.hid hfin
                  have HM := Lib.hid (HB.out.later hBl)
                  have hn1' : n1 ≤ 2 := by have := HN1.out; simp only [List.length_append] at this; omega
                  clear hf he hBl hfin KP
                  go_wp2_with fail
                  go_ret
                  exact ⟨_, _, ⟨_, rfl⟩, _, HM.out.rd, ⟨fun y => by rw [HM1.out, HN.out, HFIN.out, List.append_nil], HS1.out⟩, by omega, below_via HB1.out HM.out.bel⟩
/-- the next places: both. -/
theorem next_calls (w : World) (h : Hd) (C : List En) (T : List Tr) (hi : h.Is w C T) (x : Int) :
    Calls Tryd.prog 14 #[h.v, .int .i64 x] w fun e w' => ∃ A n c L, e = .returned (.slice A n c) ∧ Reads w' w'.heap.size 1 A n (ints L) ∧ ((∀ y, y ∈ L ↔ y ∈ nxt h.nc C T x) ∧ Strict L) ∧ n ≤ 3 ∧ Below w.heap.size w w' := by
  by_cases hx : 0 ≤ x ∧ x < h.nc
  · obtain ⟨k, rfl⟩ : ∃ k : Nat, x = k := ⟨x.toNat, by omega⟩
    exact next_in w h C T hi k (by omega)
  · have hx' : x < 0 ∨ (h.nc : Int) ≤ x := by omega
    rw [nxt_out hx']
    exact (next_out w h x hx').mono fun e w' ⟨h1, h2⟩ => ⟨none, 0, 0, [], h1, Reads.none_, ⟨fun _ => Iff.rfl, List.Pairwise.nil⟩, by omega, h2⟩
theorem rnext_calls (w : World) (h : Hd) (C : List En) (T : List Tr) (hi : h.Is w C T) (x : Int) :
    Calls Tryd.prog 16 #[h.v, .int .i64 x] w fun e w' => ∃ A n c L, e = .returned (.slice A n c) ∧ Reads w' w'.heap.size 1 A n (ints L) ∧ ((∀ y, y ∈ L ↔ y ∈ nxt h.nc C T x) ∧ Strict L) ∧ n ≤ 3 ∧ Below w.heap.size w w' := by
  by_cases hx : 0 ≤ x ∧ x < h.nc
  · obtain ⟨k, rfl⟩ : ∃ k : Nat, x = k := ⟨x.toNat, by omega⟩
    exact rnext_in w h C T hi k (by omega)
  · have hx' : x < 0 ∨ (h.nc : Int) ≤ x := by omega
    rw [nxt_out hx']
    exact (rnext_out w h x hx').mono fun e w' ⟨h1, h2⟩ => ⟨none, 0, 0, [], h1, Reads.none_, ⟨fun _ => Iff.rfl, List.Pairwise.nil⟩, by omega, h2⟩
end Go.Proofs.YteagkdmefmpokaaDoor
