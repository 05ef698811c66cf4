/- For every script and number of bulk at most 1048576 together the call of CellsNever returns true, and its arguments read as before. -/
import Derived.Test.YtoicddafonpjhaaKq
import Derived.Deep.CutRange
import Derived.Deep.CutBlock
import Derived.BigQuiet
import Derived.Deep.QuietTactic
import Derived.Test.YtoicddafonpjhaaRows
import Derived.ProofKit
import Derived.OpenShut
import Derived.Carry
import Derived.JoinedCond
namespace Go.Proofs.Ytoicddafonpjhaa.cellsNever
open Go.ChangeShapes Go.WideShapes Go.ChangeAt Go.RowKit Go.Deep Go
set_option linter.unusedSimpArgs false
set_option linter.unusedVariables false
theorem info3 : (Try.prog.info? 3).map (fun i => (i.zero, i.size, i.bytes)) = some (some (.int .i64 0), 1, 8) := by kernel_rfl
theorem info4 : (Try.prog.info? 4).map (fun i => (i.zero, i.size, i.bytes)) = some (some (.bool false), 1, 1) := by kernel_rfl
set_option maxRecDepth 100000 in
set_option maxHeartbeats 4000000 in
theorem walkS (w : World) (b off n cap : Nat) (a1 : Int) (K N : Nat → Int) (hs : Script w b off n cap K N) (hn : n ≤ 349525) :
    Calls Try.prog 4 #[.slice (some ⟨b, off, none⟩) n cap, .int .i64 a1] w fun e w' => e = .returned (.bool true) ∧ Below w.heap.size w w' := by
  obtain ⟨i3, hi3, hz30, hz31, hz32⟩ := info_parts info3
  obtain ⟨i4, hi4, hz40, hz41, hz42⟩ := info_parts info4
  have NW := Lib.hid (New_calls w w.heap.size (Nat.le_refl _))
  have AL := Lib.hid alive12
  have hcap := hs.cap
  have HS := Lib.hid hs
  clear hs
  go_enter Try.func4, Try.ntmps4
  go_wp2_with (first | (go_at_call 7; refine NW.out.mono ?_; rintro e wa ⟨bc, rfl, hr1, hb1⟩) | (go_at_call 8; refine (AL.out _).mono ?_; rintro e wb ⟨rfl, hb2⟩))
  have K0 := Lib.hid (nv_start (has_keep hr1 hb2) (via12 hb1 hb2))
  clear hr1 hb1 hb2
  go_loopg [6, 24] n (fun f ov i wr => ∃ (k : Nat) (l : List Cl) (on : List Int) (ov0 : Value), i = .int .i64 k ∧ ov0 = ov ∧ k + f = n ∧ on.length ≤ k ∧ Nv w wr (.pointer (some ⟨bc, 0, none⟩)) ov0 l on)
  case atStart => exact ⟨0, [], [], _, rfl, rfl, by omega, Nat.le_refl _, K0.out⟩
  case round =>
    obtain ⟨k, l, on, ov, rfl, hov, hf, hlk, S⟩ := hrel
    subst hov
    by_cases hk : k < n
    · have hk' : (k : Int) < n := by omega
      obtain ⟨c0, c1⟩ := HS.out.at0 S.bel k hk
      obtain ⟨f', hf'⟩ : ∃ f', gk = f' + 1 := ⟨gk - 1, by omega⟩
      have HF' := Lib.hid hf'
      obtain ⟨nn, hnn⟩ : ∃ nn, N k = nn := ⟨_, rfl⟩
      obtain ⟨kk, hkk⟩ : ∃ kk, K k = kk := ⟨_, rfl⟩
      rw [hnn] at c1
      rw [hkk] at c0
      have S0 := Lib.hid (nw_open S kk nn)
      have hst := S.st
      have htot := hst.tot
      have hll := hst.len
      have HLK := Lib.hid hlk
      have HST := Lib.hid hst
      clear hnn hkk hf' hst
      by_cases k0 : kk = 0
      · subst k0
        have MK := Lib.hid (nw_make S0.out (by omega) htot)
        have HST' := Lib.hid (st_mk HST.out nn)
        have hon : on.length ≤ 349525 := by omega
        clear S htot hll hlk
        go_wp2_with (first | (go_at_call 9; refine MK.out.mono ?_; rintro e w1 ⟨rfl, S1⟩; have p1 := S1.o1; have ro := Lib.hid (S1.row.alloc (.cells #[.int .i64 nn] 3)); have hbs := S1.bel.size; replace S1 := Lib.hid S1) | (at_builtin; refine wpList_append_fresh rfl (.tmp 35) (.tmp 38) 38 rfl w.heap.size 3 i3 _ 8 Try.underlying38 hi3 hz30 hz31 hz32 rfl _ on.length (ints on) rfl ro.out ⟨_, 0, none⟩ 1 1 [.int .i64 nn] rfl rfl (by intro j u hj; match j, hj with | 0, hj => (simp at hj; subst hj; simp [Addr.add])) (by intro u hu; simp at hu; subst hu; rfl) (by unfold maxLen; omega) (by omega) (by rw [sz_alloc]; omega) ?_; intro v1 w2 hown hgrow hfr; have S2 := Lib.hid (nw_on S1.out hgrow hown hfr HST'.out); clear hown hgrow hfr ro))
        go_roundg f'
        case measure => have := HF'.out; omega
        case rel => exact ⟨k + 1, _, _, _, by simp, rfl, by have := HF'.out; omega, by have := HLK.out; simp; omega, S2.out⟩
      · have k0b : (kk == 0) = false := by simpa using k0
        obtain ⟨rw0, hrw0⟩ : ∃ rw0, on.length = rw0 := ⟨_, rfl⟩
        have hon : rw0 ≤ 349525 := by omega
        have RF := row_form S.row
        rw [hrw0] at RF
        have HLl := Lib.hid (show l.length = rw0 by omega)
        have HRW := Lib.hid hrw0
        have HTT := Lib.hid htot
        clear S htot hll hlk hrw0
        rcases RF with ⟨hov, hz⟩ | ⟨g, gcap, hov, hgc⟩
        · subst hov
          subst hz
          have o0 := S0.out.o0
          have o1 := S0.out.o1
          go_wp2
          go_loopg [9, 42] 0 (fun f wv i wr1 => i = .int .i64 0 ∧ wr1 = (wr.alloc (.cells #[.int .i64 kk, .int .i64 nn] 28)) ∧ wv = .slice none 0 0)
          case atStart => exact ⟨rfl, rfl, rfl⟩
          case round =>
            obtain ⟨rfl, rfl, rfl⟩ := hrel
            by_cases k1 : kk = 1
            · have BR := Lib.hid (nw_break S0.out (by have := HLl.out; omega) HTT.out)
              have HST' := Lib.hid (HST.out.brk nn).2
              subst k1
              go_wp2_with (first | (go_at_call 12; refine BR.out.mono ?_; rintro e w2 ⟨rfl, S2⟩; replace S2 := Lib.hid S2))
              go_loopg [61] 0 (fun f i wr1 => i = .int .i64 0 ∧ wr1 = w2)
              case atStart => exact ⟨rfl, rfl⟩
              case round =>
                obtain ⟨rfl, rfl⟩ := hrel
                go_wp2
                go_roundg f'
                case measure => have := HF'.out; omega
                case rel => exact ⟨k + 1, _, _, _, by simp, rfl, by have := HF'.out; omega, by have := HLK.out; have := HRW.out; omega, nw_close S2.out HST'.out⟩
            · have k1b : (kk == 1) = false := by simpa using k1
              have k1c : (kk != 1) = true := by simpa using k1
              clear k1
              go_wp2
              go_roundg f'
              case measure => have := HF'.out; omega
              case rel => exact ⟨k + 1, _, _, _, by simp, rfl, by have := HF'.out; omega, by have := HLK.out; have := HRW.out; omega, nw_close S0.out HST.out⟩
        · subst hov
          go_wp2
          go_loopg [9, 42] rw0 (fun f wv i wr1 => ∃ (j : Nat) (was : List Bool) (wv0 : Value), i = .int .i64 j ∧ wv0 = wv ∧ j + f = rw0 ∧ was = (List.range j).map (fun x => vld l (x : Nat)) ∧ Nw w wr1 (.pointer (some ⟨bc, 0, none⟩)) (.slice (some ⟨g, 0, none⟩) rw0 gcap) wv0 wr.heap.size kk nn l on was)
          case atStart => exact ⟨0, [], _, rfl, rfl, by omega, rfl, S0.out⟩
          case round =>
            rename World => wr1
            obtain ⟨j, was, wv, rfl, hwv, hfj, hwas, SW⟩ := hrel
            subst hwv
            by_cases hj : j < rw0
            · have hj' : (j : Int) < rw0 := by omega
              obtain ⟨g', hg'⟩ : ∃ f', gk = f' + 1 := ⟨gk - 1, by omega⟩
              have HG' := Lib.hid hg'
              have HFJ := Lib.hid hfj
              have hwl : was.length = j := by rw [hwas]; simp
              have HWA := Lib.hid hwas
              have V := Lib.hid (HValidS wr1 w.heap.size _ l (j : Int) SW.has)
              have ro := Lib.hid (SW.wrow.alloc (.cells #[.bool (vld l (j : Int))] 4))
              have hbs := SW.bel.size
              have hwl' : was.length ≤ 349525 := by omega
              have HSW := Lib.hid SW
              clear SW hg' hfj hwas hwl
              go_wp2_with (first | (go_at_call 13; refine V.out.mono ?_; rintro e w' ⟨rfl, rfl⟩) | (at_builtin; refine wpList_append_fresh rfl (.tmp 45) (.tmp 49) 39 rfl w.heap.size 4 i4 _ 1 Try.underlying39 hi4 hz40 hz41 hz42 rfl _ was.length (bools was) rfl ro.out ⟨_, 0, none⟩ 1 1 [.bool (vld l (j : Int))] rfl rfl (by intro j u hj; match j, hj with | 0, hj => (simp at hj; subst hj; simp [Addr.add])) (by intro u hu; simp at hu; subst hu; rfl) (by unfold maxLen; omega) (by omega) (by rw [sz_alloc]; omega) ?_; intro v1 w2 hown hgrow hfr; have S2 := Lib.hid (nw_was HSW.out hgrow hown hfr); clear hown hgrow hfr ro))
              go_roundg g'
              case measure => have := HG'.out; omega
              case rel => exact ⟨j + 1, _, _, by simp, rfl, by have := HG'.out; have := HFJ.out; omega, by rw [HWA.out, List.range_succ, List.map_append]; rfl, S2.out⟩
            · have e : j = rw0 := by omega
              subst e
              have HWA := Lib.hid hwas
              have HSW := Lib.hid SW
              have o0 := SW.o0
              have o1 := SW.o1
              clear hwas SW
              by_cases k1 : kk = 1
              · have BR := Lib.hid (nw_break HSW.out (by have := HLl.out; omega) HTT.out)
                subst k1
                go_wp2_with (first | (go_at_call 12; refine BR.out.mono ?_; rintro e w2 ⟨rfl, S2⟩; replace S2 := Lib.hid S2))
                have hvv := brk_hitN HST.out nn
                have hst' := (HST.out.brk nn).2
                generalize (brk (1 + load l) l [nn] 0).1 = l' at hvv hst' S2
                have HVV := Lib.hid hvv
                have HST' := Lib.hid hst'
                clear hvv hst' o0 o1 BR HSW
                go_loopg [61] j (fun f xv wr3 => ∃ x : Nat, xv = .int .i64 x ∧ x + f = j ∧ Nw w wr3 (.pointer (some ⟨bc, 0, none⟩)) (.slice (some ⟨g, 0, none⟩) j gcap) wv wr.heap.size 1 nn l' on was)
                case atStart => exact ⟨0, rfl, by omega, S2.out⟩
                case round =>
                  rename World => wr3
                  obtain ⟨x, rfl, hfx, S3⟩ := hrel
                  by_cases hx : x < j
                  · have hx' : (x : Int) < j := by omega
                    obtain ⟨h', hh'⟩ : ∃ f', gk = f' + 1 := ⟨gk - 1, by omega⟩
                    have HH' := Lib.hid hh'
                    have HFX := Lib.hid hfx
                    have V := fun m => HValidS (wr3.drewN m) w.heap.size _ l' (x : Int) (nw_drewN S3 m).has
                    rw [HVV.out x] at V
                    have hwl : was.length = j := by rw [HWA.out]; simp
                    have hwx : was[x]? = some (vld l (x : Nat)) := by rw [HWA.out]; simp [hx]
                    have RW := row_form S3.wrow
                    rw [hwl] at RW
                    have p1 := S3.o1
                    have HON := Lib.hid (fun (i : Nat) (y : Int) (h : on[i]? = some y) => nw_onAt S3 HRW.out i y h)
                    have HWX := Lib.hid hwx
                    have HWL := Lib.hid hwl
                    have HS3 := Lib.hid S3
                    replace V := Lib.hid V
                    clear hfx hh' hwx S3 hwl
                    rcases RW with ⟨_, hz⟩ | ⟨gw, wcap, hwv, hwc⟩
                    · omega
                    · subst hwv
                      have cw := nw_wasAt HS3.out HWL.out x _ HWX.out
                      go_upto_block 6 with fail
                      go_cut [12, 13, 14] from 65 to 98 (fun b h k wx => h = .bool (hitN on nn x) ∧ wx = wr3)
                      case first =>
                        go_wp2_with fail
                        go_loopg [12, 13, 14] (x + 1) (fun f b h q wr4 => ∃ (bi : Int) (hb : Bool) (ki : Int), b = .int .i64 bi ∧ h = .bool hb ∧ q = .int .i64 ki ∧ Down on nn x f bi hb ki ∧ wr4 = wr3)
                        case atStart => exact ⟨x, false, 0, rfl, rfl, rfl, .go (k := 0) (by have := HRW.out; omega) (by omega) rfl, rfl⟩
                        case round =>
                          obtain ⟨bi, hb, ki, rfl, rfl, rfl, hd, rfl⟩ := hrel
                          cases hd with
                          | met h1 =>
                            have H1 := Lib.hid h1
                            clear h1
                            go_wp2_with fail
                            all_goals (go_meet; exact ⟨congrArg Value.bool H1.out.symm, rfl⟩)
                          | off h1 h2 =>
                            have H1 := Lib.hid h1
                            have h2' : ¬ 0 ≤ bi := by omega
                            clear h1
                            go_wp2_with fail
                            all_goals (go_meet; exact ⟨congrArg Value.bool H1.out.symm, rfl⟩)
                          | @go bn kn h1 h2 h3 =>
                            have H3 := Lib.hid h3
                            obtain ⟨y, hy⟩ : ∃ y, on[bn]? = some y := ⟨_, List.getElem?_eq_getElem h1⟩
                            have cy := HON.out bn y hy
                            have h1' : (bn : Int) < j := by have := HRW.out; omega
                            have h2' : (kn : Int) ≤ j := by omega
                            have HY := Lib.hid hy
                            have h2h := Lib.hid h2
                            clear h1 h2 h3 hy
                            by_cases e : (bn : Int) = nn
                            · have hm : hitN on nn x = true := by rw [← H3.out, ← e]; exact hitN_here on bn
                              have HM := Lib.hid hm
                              have eb : ((bn : Int) == nn) = true := by simpa using e
                              clear e hm
                              go_wp2_with fail
                              · go_meet; exact ⟨congrArg Value.bool HM.out.symm, rfl⟩
                              · go_roundg 0
                                case measure => omega
                                case rel => exact ⟨_, true, _, rfl, rfl, rfl, .met HM.out, rfl⟩
                            · have E := Lib.hid e
                              have eb : ((bn : Int) == nn) = false := by simpa using e
                              clear e
                              by_cases hge : y ≥ bn
                              · have hm : hitN on nn x = false := by rw [← H3.out]; exact hitN_no HY.out (.inr hge) E.out
                                have HM := Lib.hid hm
                                clear hm
                                go_wp2_with fail
                                go_meet; exact ⟨congrArg Value.bool HM.out.symm, rfl⟩
                              · by_cases hyn : y < 0
                                · have hm : hitN on nn x = false := by rw [← H3.out]; exact hitN_no HY.out (.inl hyn) E.out
                                  have HM := Lib.hid hm
                                  clear hm
                                  go_wp2_with fail
                                  go_roundg 0
                                  case measure => omega
                                  case rel => exact ⟨_, false, _, rfl, rfl, rfl, .off HM.out hyn, rfl⟩
                                · obtain ⟨yn, rfl⟩ := Int.eq_ofNat_of_zero_le (show 0 ≤ y by omega)
                                  have hyb := Lib.hid (show yn < bn by omega)
                                  go_wp2_with fail
                                  go_roundg (yn + 1)
                                  case measure => have := hyb.out; omega
                                  case rel => exact ⟨_, false, _, rfl, rfl, rfl, by have h := Down.go (on := on) (nn := nn) (i := x) (b := yn) (k := kn + 1) (by have := HRW.out; have := hyb.out; omega) (by have := hyb.out; have := h2h.out; omega) ((hitN_up HY.out hyb.out E.out).symm.trans H3.out); simpa using h, rfl⟩
                      case rest =>
                        obtain ⟨rfl, rfl⟩ := hcut
                        have HX := Lib.hid hx
                        by_cases hwv : vld l (x : Nat) = true
                        all_goals (try replace hwv : vld l (x : Nat) = false := by simpa using hwv)
                        all_goals
                          rw [hwv] at V cw
                          clear hwv
                          generalize hitN on nn x = hb at *
                          cases hb
                          all_goals
                            replace V := Lib.hid V
                            go_wp2_with fail
                            go_quiet ((go_at_call 13; exact Calls.quiet_of_same (V.out _)))
                            go_wp2
                            go_roundg h'
                            case measure => have := HH'.out; omega
                            case rel => exact ⟨x + 1, by simp, by have := HH'.out; have := HFX.out; omega, nw_drewN HS3.out _⟩
                  · have e : x = j := by omega
                    subst e
                    have HS3 := Lib.hid S3
                    clear S3
                    go_wp2
                    go_roundg f'
                    case measure => have := HF'.out; omega
                    case rel => exact ⟨k + 1, _, _, _, by simp, rfl, by have := HF'.out; omega, by have := HLK.out; have := HRW.out; omega, nw_close HS3.out HST'.out⟩
              · have k1b : (kk == 1) = false := by simpa using k1
                have k1c : (kk != 1) = true := by simpa using k1
                clear k1
                go_wp2
                go_roundg f'
                case measure => have := HF'.out; omega
                case rel => exact ⟨k + 1, _, _, _, by simp, rfl, by have := HF'.out; omega, by have := HLK.out; have := HRW.out; omega, nw_close HSW.out HST.out⟩
    · have e : k = n := by omega
      subst e
      obtain ⟨rw0, hrw0⟩ : ∃ rw0, on.length = rw0 := ⟨_, rfl⟩
      have RF := row_form S.row
      rw [hrw0] at RF
      have VL := HValidS wr w.heap.size _ l a1 S.has
      have HB := Lib.hid S.bel
      have hll := S.st.len
      have hov : vld l a1 = true → 0 ≤ a1 ∧ a1 < rw0 := fun h => by
        obtain ⟨h1, h2, h3⟩ := vld_pos h
        exact ⟨h1, by omega⟩
      clear S hrw0 hll
      cases hv : vld l a1
      · rw [hv] at VL
        replace VL := Lib.hid VL
        clear hov hv
        rcases RF with ⟨rfl, hz⟩ | ⟨g, gcap, rfl, hgc⟩
        all_goals
          go_wp2_with (first | (go_at_call 13; refine VL.out.mono ?_; rintro e w' ⟨rfl, rfl⟩))
          all_goals go_ret
          all_goals exact ⟨rfl, HB.out⟩
      · obtain ⟨h1, h2⟩ := hov hv
        rw [hv] at VL
        replace VL := Lib.hid VL
        clear hov hv
        rcases RF with ⟨rfl, hz⟩ | ⟨g, gcap, rfl, hgc⟩
        · omega
        · go_wp2_with (first | (go_at_call 13; refine VL.out.mono ?_; rintro e w' ⟨rfl, rfl⟩))
          all_goals go_ret
          all_goals exact ⟨rfl, HB.out⟩
set_option maxRecDepth 100000 in
set_option maxHeartbeats 4000000 in
theorem walk0 (a : Option Addr) (cap : Nat) (a1 : Int) (w : World) : Calls Try.prog 4 #[.slice a 0 cap, .int .i64 a1] w fun e w' => e = .returned (.bool true) ∧ Below w.heap.size w w' := by
  have NW := Lib.hid (New_calls w w.heap.size (Nat.le_refl _))
  have AL := Lib.hid alive12
  go_enter Try.func4, Try.ntmps4
  go_wp2_with (first | (go_at_call 7; refine NW.out.mono ?_; rintro e wa ⟨bc, rfl, hr1, hb1⟩) | (go_at_call 8; refine (AL.out _).mono ?_; rintro e wb ⟨rfl, hb2⟩))
  have HB := Lib.hid (via12 hb1 hb2)
  have VL := HValidS wb w.heap.size _ [] a1 (has_keep hr1 hb2)
  have hv : vld [] a1 = false := by unfold vld; simp
  rw [hv] at VL
  replace VL := Lib.hid VL
  clear hr1 hb1 hb2 hv
  go_loopg [24] 0 (fun f i wr => i = .int .i64 0 ∧ wr = wb)
  case atStart => exact ⟨rfl, rfl⟩
  case round =>
    obtain ⟨rfl, rfl⟩ := hrel
    go_wp2_with (first | (go_at_call 13; refine VL.out.mono ?_; rintro e w' ⟨rfl, rfl⟩))
    all_goals go_ret
    all_goals exact ⟨rfl, HB.out⟩
theorem call {H : Type} {enc : TypeId × Value → H} {W : World} {base : Nat} {v0 : Value} {d0 : DataW H} {p0 : List MemPlace} {v1 : Value} {d1 : DataW H} {p1 : List MemPlace}
    (o0 : Value.okWide Try.prog W .any base 22 v0) (h0 : DataW.Trod enc Try.prog W 0 (fun _ => true) true 22 v0 d0 p0) (o1 : Value.okWide Try.prog W .any base 3 v1) (h1 : DataW.Trod enc Try.prog W 0 (fun _ => true) true 3 v1 d1 p1) (hb : Rows.uptoBulk d0 + Rows.uptoBulk d1 ≤ 1048576) :
    Calls Try.prog 4 #[v0, v1] W fun e w' => e = .returned (.bool true) ∧ Below W.heap.size W w' := by
  obtain ⟨a1, rfl, rfl, rfl, w1⟩ := open_int Try.underlying3 o1 h1
  rcases open_script o0 h0 (by omega) with ⟨a, cap, rfl⟩ | ⟨b, off, n, cap, K, N, rfl, hn, hs⟩
  · exact walk0 a cap a1 W
  · exact walkS W b off n cap a1 K N hs hn
theorem own : ownKnob Try.prog.godebug = none := by kernel_rfl
theorem laidOut : laidOutB Try.prog = true := by kernel_rfl
set_option maxHeartbeats 0 in
/-- what the walk gives. -/
theorem contract (H : Type) (enc : TypeId × Value → H) (W : World) (base : Nat) (args : Array Value) (ds gs : List (DataW H)) (before : List MemPlace)
    (hval : ∀ (j : Nat) t v, Try.f4.params[j]? = some t → args[j]? = some v → Value.okWide Try.prog W .any base t v)
    (hW : DataW.Whole enc Try.prog Try.f4.params.toList Rows.cellsNeverSpec.vars false W args.toList ds gs before) (hk : Rows.uptoSmall H (ds ++ gs) = true) :
    Calls Try.prog 4 args W fun e W' => ∃ v, e = .returned v ∧ Rows.cellsNeverSpec.post enc Try.prog Try.f4 false true false false W args v W' := by
  have hW' := hW
  obtain ⟨p, q, hA0, hV, rfl, hfz, hnd⟩ := hW
  have hA : DataW.TrodAll enc Try.prog W 0 (fun _ => true) true Try.f4.params.toList args.toList ds p := hA0
  rw [Try.params4] at hA hval
  obtain ⟨v0, vs0, d0, ds0, p0, q0, hargs, rfl, rfl, h0, r0⟩ := trodAll_cons hA
  obtain ⟨v1, vs1, d1, ds1, p1, q1, rfl, rfl, rfl, h1, r1⟩ := trodAll_cons r0
  obtain ⟨rfl, rfl, rfl⟩ := trodAll_nil r1
  obtain rfl : args = #[v0, v1] := by cases args; simp_all
  obtain ⟨rfl, rfl⟩ := trodVars_none hV
  clear hA0
  simp only [List.append_nil] at hW' hk
  have lt0 : ∀ x ∈ p0, x.block < W.heap.size := fun x hx => hW'.lt x (by simp [hx])
  have lt1 : ∀ x ∈ p1, x.block < W.heap.size := fun x hx => hW'.lt x (by simp [hx])
  have hb : Rows.uptoBulk d0 + Rows.uptoBulk d1 ≤ 1048576 := by
    have h := of_decide_eq_true hk
    simp only [List.cons_append, List.nil_append, Rows.uptoBulkAll] at h
    omega
  refine (call (hval 0 22 v0 rfl rfl) h0 (hval 1 3 v1 rfl rfl) h1 hb).mono fun e W' ⟨he, bel⟩ => ?_
  subst he
  exact ⟨_, rfl, _, _, _, [], _, [], hW', (trodAll_cons_mk (shut_bool Try.underlying4 _) trodAll_mk0), (trodAll_cons_mk (Below.trod laidOut (by kernel_rfl) (of_decide_eq_true (by kernel_rfl)) h0 bel lt0) (trodAll_cons_mk (Below.trod laidOut (by kernel_rfl) (of_decide_eq_true (by kernel_rfl)) h1 bel lt1) trodAll_mk0)), rfl, bel.frame _, fun h => by cases h⟩
set_option maxRecDepth 100000 in
theorem lifted (os : Os) (started : os.Started) (H : Type) (enc : TypeId × Value → H) (F : Stop.Interp) :
    ReturnsInHanded {} Try.checked os 4 .any ((Rows.OpenSpec.upto Rows.cellsNeverSpec).pre6 enc Try.prog Try.f4 Rows.cellsNeverUptoRow.domain false) (((Rows.OpenSpec.upto Rows.cellsNeverSpec).at F).post enc Try.prog Try.f4 false true false false) := by
  refine returnsInHanded_of_cond (C := Try.checked) (s := Rows.OpenSpec.upto Rows.cellsNeverSpec) (k := Rows.uptoSmall) rfl own started (by kernel_rfl) Try.func4
    (OpenSpec.witness (enc := enc) (C := Try.checked) (s := Rows.OpenSpec.upto Rows.cellsNeverSpec) (k := Rows.uptoSmall) rfl false ⟨#[], #[.slice none 0 0, .int .i64 0], []⟩ 8 (by kernel_rfl) (by kernel_rfl) (by kernel_rfl)
      (x := ([.nil, .lit (.int .i64 0)], [], [])) (by kernel_rfl) rfl (by kernel_rfl)) ?_
  intro W base args ds gs before hval hW _ hk _
  exact contract H enc W base args ds gs before hval hW hk
set_option maxHeartbeats 0 in
theorem over : Rows.cellsNeverUptoRow.holds Try.pinned (Rows.OpenSpec.upto Rows.cellsNeverSpec) :=
  OpenClaim.holds_of_cond 4 Try.f4 rfl rfl rfl rfl rfl rfl rfl ⟨rfl, rfl, rfl, rfl, rfl⟩ rfl rfl rfl rfl rfl (by as_aux_lemma => kernel_rfl) Try.func4 (by as_aux_lemma => kernel_rfl)
    (of_decide_eq_true (by as_aux_lemma => kernel_rfl)) (by as_aux_lemma => unfold Func.isWrapper; first | (rw [if_pos (by decide +kernel)]; kernel_rfl) | (rw [if_neg (by decide +kernel)]; exact ⟨rfl, rfl⟩))
    (fun os started H enc _ F => lifted os started H enc F)
theorem proved : Rows.CellsNeverUptoSaid :=
  over
#print axioms proved
end Go.Proofs.Ytoicddafonpjhaa.cellsNever
namespace Go.Proofs.Ytoicddafonpjhaa
theorem cellsNever_holds : Rows.CellsNeverUptoSaid := cellsNever.proved
end Go.Proofs.Ytoicddafonpjhaa
