/- For every function and every place the call of CodeCut returns true, and its arguments read as before; the package-level table starts as the program's text lays it (the card ties it). -/
import Derived.Test.YteagkdmefmpokaaDoorEq
import Derived.Test.YteagkdmefmpokaaDoorCards
import Derived.Test.YteagkdmefmpokaaDoorTie
import Derived.ProofKit
import Derived.OpenShut
import Derived.Carry
import Derived.Deep.DeepHandedRow
import Derived.Lib.LaidTab
import Derived.JoinedOf
import Derived.SizedLaws
import Derived.JoinedCond
namespace Go.Proofs.YteagkdmefmpokaaDoor.codeCut
open Go.ChangeShapes Go.WideShapes Go.ChangeAt Go.RowKit Go.Deep Go
set_option linter.unusedSimpArgs false
set_option linter.unusedVariables false
theorem ef_take : ∀ (C : List En) (a : Nat), ef (C.take a) = (ef C).take (a * 4)
  | [], a => by simp [ef]
  | e :: C, 0 => by simp [ef]
  | e :: C, a + 1 => by
    rw [List.take_succ_cons, show (a + 1) * 4 = a * 4 + 1 + 1 + 1 + 1 by omega]
    simp only [ef, List.take_succ_cons]
    rw [ef_take C a]
theorem reads_take {w : World} {B n a : Nat} {A : Option Addr} {C : List En} (h : Reads w B 4 A n (ef C)) (ha : a ≤ n) : Reads w B 4 A a (ef (C.take a)) := by
  have hl := reads_len h
  refine ⟨by rw [ef_length, List.length_take]; omega, fun h0 => ?_⟩
  obtain ⟨ad, e, hb, hc⟩ := h.2 (by omega)
  refine ⟨ad, e, hb, fun j u hj => hc j u ?_⟩
  rw [ef_take, List.getElem?_take] at hj
  split at hj
  · exact hj
  · cases hj
theorem pis_one {W : World} {g : Nat} {F : Fn} (hb : Blk W g 36 F.hd.b) (hF : F.Is W) (hW : F.W) : PIs W (some ⟨g, 0, none⟩) 1 [F] :=
  ⟨reads_blk hb rfl, fun G hG => by rw [List.mem_singleton.1 hG]; exact hF, fun G hG => by rw [List.mem_singleton.1 hG]; exact hW, by omega⟩
theorem all_mem {p : Int → Bool} {L X Y : List Int} (h : ∀ y, y ∈ L ↔ y ∈ X ∨ y ∈ Y) : L.all p = (X.all p && Y.all p) := by
  rw [Bool.eq_iff_iff]
  simp only [Bool.and_eq_true, List.all_eq_true]
  exact ⟨fun k => ⟨fun y hy => k y ((h y).2 (.inl hy)), fun y hy => k y ((h y).2 (.inr hy))⟩, fun k y hy => ((h y).1 hy).elim (k.1 y) (k.2 y)⟩
theorem cutF_is {F : Fn} {W : World} {a : Nat} (h : F.Is W) (ha : a ≤ F.hd.nc) : (cutF F a).Is W :=
  ⟨⟨reads_take h.his.code ha, h.his.hand, by show a * 32 ≤ _; have := h.his.nc; omega, h.his.nh⟩, h.con, h.cap, h.nk, h.np⟩
theorem cut_starts (W : World) (F : Fn) (a : Nat) (A : Option Addr) (hA : F.hd.Ac = A) (hF : F.Is W) (ha : a ≤ F.hd.nc) :
    Calls Tryd.prog 17 #[.agg #[.string F.hd.nm, .int .i64 F.hd.pa, .int .i64 F.hd.re, .bool F.hd.ge, .slice A a F.hd.cc, .slice F.hd.Ak F.hd.nk F.hd.ck, .slice F.hd.Ap F.hd.np F.hd.cp, .slice F.hd.Ah F.hd.nh F.hd.ch]] W fun e w' => ∃ A n c L, e = .returned (.slice A n c) ∧ Reads w' w'.heap.size 1 A n (ints L) ∧ ((∀ y, y ∈ L ↔ y ∈ jmp (F.C.take a) ∨ y ∈ tgt F.T) ∧ Strict L) ∧ n ≤ a + F.hd.nh ∧ Below W.heap.size W w' := by
  subst hA; exact starts2_calls W (cutH F.hd a) _ _ (cutF_is hF ha).his
theorem cut_check (W : World) (F : Fn) (a : Nat) (A : Option Addr) (hA : F.hd.Ac = A) (hT : Tab W) (hF : F.Is W) (hW : F.W) (ha : a ≤ F.hd.nc) :
    Calls Tryd.prog 10 #[.agg #[.slice (some ⟨W.heap.size, 0, none⟩) 1 1]] (W.alloc (.cells #[.string F.hd.nm, .int .i64 F.hd.pa, .int .i64 F.hd.re, .bool F.hd.ge, .slice A a F.hd.cc, .slice F.hd.Ak F.hd.nk F.hd.ck, .slice F.hd.Ap F.hd.np F.hd.cp, .slice F.hd.Ah F.hd.nh F.hd.ch] 36)) fun e w' => e = .returned (.int .i64 (chkV (chk 1 [cutF F a]))) ∧ Below W.heap.size W w' := by
  subst hA
  have B := below_new W (.cells (cutF F a).hd.b 36)
  exact (check_calls (W.alloc (.cells (cutF F a).hd.b 36)) (some ⟨W.heap.size, 0, none⟩) 1 1 [cutF F a] (hT.later B) (pis_one (Blk.new _ _ _) ((cutF_is hF ha).later B) (fun e he => hW e (List.mem_of_mem_take he)))).mono fun e w' ⟨h1, h2⟩ => ⟨h1, below_via B h2⟩
abbrev three3 (w : World) (h : Hd) : World := ((h.box w).alloc (.cells h.b 36)).alloc (.cells #[.slice (some ⟨w.heap.size + 1, 0, none⟩) 1 1] 24)
theorem three3_blk {w W : World} {h : Hd} (b : Below (three3 w h).heap.size (three3 w h) W) : Blk W w.heap.size 36 h.b ∧ Blk W (w.heap.size + 1) 36 h.b ∧ W.cell? ⟨w.heap.size + 1 + 1, 0, none⟩ = some (.slice (some ⟨w.heap.size + 1, 0, none⟩) 1 1) := by
  have B1 := ((Blk.new w 36 h.b).alloc (.cells h.b 36)).alloc (.cells #[.slice (some ⟨w.heap.size + 1, 0, none⟩) 1 1] 24)
  have B2 := (Blk.new (h.box w) 36 h.b).alloc (.cells #[.slice (some ⟨w.heap.size + 1, 0, none⟩) 1 1] 24)
  have B3 := Blk.new ((h.box w).alloc (.cells h.b 36)) 24 #[.slice (some ⟨w.heap.size + 1, 0, none⟩) 1 1]
  unfold Hd.box at *
  rw [size_alloc] at B2
  rw [size_alloc, size_alloc] at B3
  exact ⟨B1.below b B1.lt, B2.below b B2.lt, ((B3.below b B3.lt).cell 0).trans rfl⟩
set_option maxRecDepth 100000 in
set_option maxHeartbeats 16000000 in
theorem walk (w : World) (hT : Tab w) (F : Fn) (hq : FQ w F) (x : Int) (hx1 : x ≤ 9223372036854775807) (hx0 : -9223372036854775808 ≤ x) : Calls Tryd.prog 8 #[F.hd.v, .int .i64 x] w fun e w' => e = .returned (.bool true) ∧ Below w.heap.size w w' := by
  obtain ⟨hF, hFW, hcc, hcm, _⟩ := hq
  have HB := Lib.hid (below_alloc (below_alloc (below_new w (.cells F.hd.b 36)) (.cells F.hd.b 36)) (.cells #[.slice (some ⟨w.heap.size + 1, 0, none⟩) 1 1] 24))
  have HF := Lib.hid (fun (W : World) (b : Below w.heap.size w W) => hF.later b)
  have HT := Lib.hid (fun (W : World) (b : Below w.heap.size w W) => hT.later b)
  have H3 := Lib.hid (fun (W : World) (b : Below (three3 w F.hd).heap.size (three3 w F.hd) W) => three3_blk b)
  have KA := Lib.hid (fun (W : World) (b : Below w.heap.size w W) => alive_calls W (hT.later b))
  have h3 := three3_blk (Below.refl (three3 w F.hd).heap.size (three3 w F.hd))
  have KC := check_calls (three3 w F.hd) (some ⟨w.heap.size + 1, 0, none⟩) 1 1 [F] (hT.later HB.out) (pis_one h3.2.1 (hF.later HB.out) hFW)
  have hlc := reads_len hF.his.code
  have hlt := Lib.hid (reads_len3 hF.his.hand)
  have hnc := hF.his.nc
  have hnh := hF.his.nh
  have HFW := Lib.hid hFW
  unfold three3 Hd.box Hd.b pv at *
  unfold Hd.v
  by_cases hgo : chk 1 [F] = true ∧ 1 ≤ x ∧ x ≤ F.hd.nc
  · obtain ⟨hck, ha1, ha2⟩ := hgo
    obtain ⟨a, rfl⟩ : ∃ a : Nat, x = a := ⟨x.toNat, by omega⟩
    obtain ⟨e, hxe⟩ : ∃ e, F.C[a - 1]? = some e := ⟨_, List.getElem?_eq_getElem (by omega)⟩
    have hcut := chk_cut hck hlc (by omega) (by omega) hxe
    have HCUT := Lib.hid hcut
    rw [hck] at KC
    have KC' := Lib.hid KC
    have hxa : ¬ (a : Int) < 1 := by omega
    have hda : decide ((a : Int) < 1) = false := by simp; omega
    have hdb : decide ((F.hd.nc : Int) < a) = false := by simp; omega
    have hxb : ¬ (F.hd.nc : Int) < a := by omega
    have ha0 : (0 : Int) ≤ a := by omega
    have ha3 : (a : Int) ≤ F.hd.cc := by omega
    have ha4 : (0 : Int) ≤ (a : Int) - 1 := by omega
    have ha5 : (a : Int) - 1 < F.hd.nc := by omega
    have HXE := Lib.hid hxe
    obtain ⟨b0, off0, hAc, _⟩ := reads_at hF.his.code hxe
    have HAc := Lib.hid hAc
    clear KC hT hF hFW h3 hck hcut hxe hlc hAc
    go_enter Tryd.func8, Tryd.ntmps8
    go_wp2_with (first | (go_at_call 10; (with_reducible refine KC'.out.mono ?_); rintro r w1 ⟨rfl, hb1⟩; rw [show chkV true = 0 from rfl]; obtain ⟨k1, k2, k3⟩ := H3.out _ hb1; obtain ⟨f0, f1, f2, f3, f4, f5, f6, f7, flt⟩ := Hd.eight (h := F.hd) k1; rw [HAc.out] at f4; have HB1 := Lib.hid (below_via HB.out hb1); have HK1 := Lib.hid k1; obtain ⟨b', off', hA', hbl', ⟨d0, d1, d2, d3⟩⟩ := reads_at (HF.out _ HB1.out).his.code HXE.out; rw [HAc.out] at hA'; cases hA'; clear hb1) | (go_at_call 19; (with_reducible refine (rends_calls _ e.s).mono ?_); rintro r w' ⟨rfl, rfl⟩))
    clear d0 d1 d2 d3 f0 f1 f2 f3 f4 f5 f6 f7 flt k1 k2 k3
    rename World => w1
    have HA6 := Lib.hid (below_new w1 (.cells #[.string F.hd.nm, .int .i64 F.hd.pa, .int .i64 F.hd.re, .bool F.hd.ge, .slice (some ⟨b0, off0, none⟩) a F.hd.cc, .slice F.hd.Ak F.hd.nk F.hd.ck, .slice F.hd.Ap F.hd.np F.hd.cp, .slice F.hd.Ah F.hd.nh F.hd.ch] 36))
    have HK6 := Lib.hid (Blk.new w1 36 #[.string F.hd.nm, .int .i64 F.hd.pa, .int .i64 F.hd.re, .bool F.hd.ge, .slice (some ⟨b0, off0, none⟩) a F.hd.cc, .slice F.hd.Ak F.hd.nk F.hd.ck, .slice F.hd.Ap F.hd.np F.hd.cp, .slice F.hd.Ah F.hd.nh F.hd.ch])
    have KS := Lib.hid (cut_starts (w1.alloc (.cells #[.string F.hd.nm, .int .i64 F.hd.pa, .int .i64 F.hd.re, .bool F.hd.ge, .slice (some ⟨b0, off0, none⟩) a F.hd.cc, .slice F.hd.Ak F.hd.nk F.hd.ck, .slice F.hd.Ap F.hd.np F.hd.cp, .slice F.hd.Ah F.hd.nh F.hd.ch] 36)) F a _ HAc.out (HF.out _ (below_via HB1.out HA6.out)) (by omega))
    go_wp2_with (first | (go_at_call 17; (with_reducible refine KS.out.mono ?_); rintro r w2 ⟨A2, n2, q2, L2, rfl, hr2, ⟨hm2, hs2⟩, hn2, hb2⟩; have HR2 := Lib.hid hr2; have HM2 := Lib.hid hm2; have HB2 := Lib.hid (below_via HB1.out (below_via HA6.out hb2)); have HK7 := Lib.hid (HK6.out.below hb2 HK6.out.lt); have HK8 := Lib.hid ((HK1.out.below HA6.out HK1.out.lt).below hb2 (Nat.lt_of_lt_of_le HK1.out.lt HA6.out.size)); have hll := Lib.hid (show L2.length = n2 by have := hr2.1; simpa [ints] using this); clear hr2 hm2 hs2 hb2))
    go_loopg [7, 47] n2 (fun f s7 i wr => ∃ (j : Nat) (z : Bool), i = .int .i64 j ∧ s7 = .bool z ∧ j + f = n2 ∧ (z && (L2.drop j).all fun y => decide (y < (a : Int))) = (ends e.s && L2.all fun y => decide (y < (a : Int))) ∧ Below w2.heap.size w2 wr)
    case atStart => exact ⟨0, _, rfl, rfl, by omega, rfl, Below.refl _ _⟩
    case round =>
      obtain ⟨j, z, rfl, rfl, hf, he, hB⟩ := hrel
      have HE := Lib.hid he
      have HBl := Lib.hid hB
      have HFF := Lib.hid hf
      by_cases hj : j < n2
      · obtain ⟨y, hy⟩ : ∃ y, L2[j]? = some y := ⟨_, List.getElem?_eq_getElem (by have := hll.out; omega)⟩
        obtain ⟨b3, off3, hA3, _, c0⟩ := reads_int (HR2.out.below hB) hy
        subst hA3
        have hj' : (j : Int) < n2 := by omega
        obtain ⟨f', hf'⟩ : ∃ f', gk = f' + 1 := ⟨gk - 1, by omega⟩
        have HF' := Lib.hid hf'
        have HD := Lib.hid (drop_at hy)
        clear hy hf hf' he hB
        cases z
        · go_wp2_with fail
          go_roundg f'
          case measure => have := HF'.out; omega
          case rel => exact ⟨j + 1, _, by simp, rfl, by have := HF'.out; have := HFF.out; omega, by rw [← HE.out]; simp, HBl.out⟩
        · go_wp2_with fail
          go_roundg f'
          case measure => have := HF'.out; omega
          case rel => exact ⟨j + 1, _, by simp, rfl, by have := HF'.out; have := HFF.out; omega, by rw [← HE.out, HD.out, List.all_cons]; simp, HBl.out⟩
      · have hj' : ¬ (j : Int) < n2 := by omega
        have hz : z = (ends e.s && L2.all fun y => decide (y < (a : Int))) := by rw [← he, List.drop_of_length_le (by have := hll.out; omega)]; simp
        have HZ := Lib.hid hz
        obtain ⟨Ah, hAh⟩ : ∃ A, F.hd.Ah = A := ⟨_, rfl⟩
        have f7 : wr.cell? ⟨w.heap.size, 7, none⟩ = some (.slice F.hd.Ah F.hd.nh F.hd.ch) := ((HK8.out.below hB HK8.out.lt).cell 7).trans rfl
        rw [hAh] at f7
        have HAh := Lib.hid hAh
        have hwl := (HK8.out.below hB HK8.out.lt).lt
        clear hf hB he hz hAh
        go_wp2_with fail
        go_loopg [7, 61] F.hd.nh (fun f s7 i wx => ∃ (l : Nat) (z2 : Bool), i = .int .i64 l ∧ s7 = .bool z2 ∧ l + f = F.hd.nh ∧ (z2 && (F.T.drop l).all fun t => decide (t.y ≤ (a : Int))) = (z && F.T.all fun t => decide (t.y ≤ (a : Int))) ∧ Below wr.heap.size wr wx)
        case atStart => exact ⟨0, z, rfl, rfl, by omega, rfl, Below.refl _ _⟩
        case round =>
          clear f7 hwl HE HFF hj' hj
          obtain ⟨l, z2, rfl, rfl, hf, he, hB⟩ := hrel
          rename World => wx
          have HE2 := Lib.hid he
          have HBx := Lib.hid hB
          have HFF2 := Lib.hid hf
          by_cases hlp : l < F.hd.nh
          · obtain ⟨t, ht⟩ : ∃ t, F.T[l]? = some t := ⟨_, List.getElem?_eq_getElem (by have := hlt.out; omega)⟩
            obtain ⟨b3, off3, hA3, _, ⟨c0, c1, c2⟩⟩ := reads_at3 (HF.out _ (below_via (below_via HB2.out HBl.out) hB)).his.hand ht
            rw [HAh.out] at hA3
            subst hA3
            have hl' : (l : Int) < F.hd.nh := by omega
            obtain ⟨f', hf'⟩ : ∃ f', gk = f' + 1 := ⟨gk - 1, by omega⟩
            have HF' := Lib.hid hf'
            have HD := Lib.hid (drop_at ht)
            have HAL := Lib.hid (below_new wx (.cells #[.int .i64 t.x, .int .i64 t.y, .int .i64 t.z] 49))
            clear ht hf hf' he hB
            cases z2
            · go_wp2_with fail
              go_roundg f'
              case measure => have := HF'.out; omega
              case rel => exact ⟨l + 1, _, by simp, rfl, by have := HF'.out; have := HFF2.out; omega, by rw [← HE2.out]; simp, below_via HBx.out HAL.out⟩
            · go_wp2_with fail
              go_roundg f'
              case measure => have := HF'.out; omega
              case rel => exact ⟨l + 1, _, by simp, rfl, by have := HF'.out; have := HFF2.out; omega, by rw [← HE2.out, HD.out, List.all_cons]; simp, below_via HBx.out HAL.out⟩
          · have hl' : ¬ (l : Int) < F.hd.nh := by omega
            have hz2 : z2 = (z && F.T.all fun t => decide (t.y ≤ (a : Int))) := by rw [← he, List.drop_of_length_le (by have := hlt.out; omega)]; simp
            have hfin : chk 1 [cutF F a] = z2 := by
              rw [HCUT.out, hz2, HZ.out, all_mem HM2.out]
            have HFIN := Lib.hid hfin
            have hbx := below_via HBl.out hB
            have KAx := Lib.hid (alive_calls wx (HT.out _ (below_via HB2.out hbx)))
            have HK9 := Lib.hid (HK7.out.below hbx HK7.out.lt)
            have HBX := Lib.hid (below_via HB2.out hbx)
            have KC2 := fun (W : World) (b : Below w.heap.size w W) => cut_check W F a _ HAc.out (HT.out _ b) (HF.out _ b) HFW.out (by omega)
            rw [hfin] at KC2
            have KC2' := Lib.hid KC2
            clear hf hB he hz2 hbx KC2 hfin
            cases z2
            · rw [show chkV false = 80 from rfl] at KC2'
              go_wp2_with (first | (go_at_call 9; (with_reducible refine KAx.out.mono ?_); rintro r w6 ⟨rfl, hb6⟩; have k9 := HK9.out.below hb6 HK9.out.lt; have g0 : w6.cell? ⟨w1.heap.size, 0, none⟩ = some (.string F.hd.nm) := k9.cell 0; have g1 : w6.cell? ⟨w1.heap.size, 1, none⟩ = some (.int .i64 F.hd.pa) := k9.cell 1; have g2 : w6.cell? ⟨w1.heap.size, 2, none⟩ = some (.int .i64 F.hd.re) := k9.cell 2; have g3 : w6.cell? ⟨w1.heap.size, 3, none⟩ = some (.bool F.hd.ge) := k9.cell 3; have g4 : w6.cell? ⟨w1.heap.size, 4, none⟩ = some (.slice (some ⟨b0, off0, none⟩) a F.hd.cc) := k9.cell 4; have g5 : w6.cell? ⟨w1.heap.size, 5, none⟩ = some (.slice F.hd.Ak F.hd.nk F.hd.ck) := k9.cell 5; have g6 : w6.cell? ⟨w1.heap.size, 6, none⟩ = some (.slice F.hd.Ap F.hd.np F.hd.cp) := k9.cell 6; have g7 : w6.cell? ⟨w1.heap.size, 7, none⟩ = some (.slice F.hd.Ah F.hd.nh F.hd.ch) := k9.cell 7; clear k9) | (go_at_call 10; (with_reducible refine (KC2'.out _ (below_via HBX.out hb6)).mono ?_); rintro r w7 ⟨rfl, hb7⟩))
              go_ret
              exact ⟨rfl, below_via HBX.out (below_via hb6 hb7)⟩
            · rw [show chkV true = 0 from rfl] at KC2'
              go_wp2_with (first | (go_at_call 9; (with_reducible refine KAx.out.mono ?_); rintro r w6 ⟨rfl, hb6⟩; have k9 := HK9.out.below hb6 HK9.out.lt; have g0 : w6.cell? ⟨w1.heap.size, 0, none⟩ = some (.string F.hd.nm) := k9.cell 0; have g1 : w6.cell? ⟨w1.heap.size, 1, none⟩ = some (.int .i64 F.hd.pa) := k9.cell 1; have g2 : w6.cell? ⟨w1.heap.size, 2, none⟩ = some (.int .i64 F.hd.re) := k9.cell 2; have g3 : w6.cell? ⟨w1.heap.size, 3, none⟩ = some (.bool F.hd.ge) := k9.cell 3; have g4 : w6.cell? ⟨w1.heap.size, 4, none⟩ = some (.slice (some ⟨b0, off0, none⟩) a F.hd.cc) := k9.cell 4; have g5 : w6.cell? ⟨w1.heap.size, 5, none⟩ = some (.slice F.hd.Ak F.hd.nk F.hd.ck) := k9.cell 5; have g6 : w6.cell? ⟨w1.heap.size, 6, none⟩ = some (.slice F.hd.Ap F.hd.np F.hd.cp) := k9.cell 6; have g7 : w6.cell? ⟨w1.heap.size, 7, none⟩ = some (.slice F.hd.Ah F.hd.nh F.hd.ch) := k9.cell 7; clear k9) | (go_at_call 10; (with_reducible refine (KC2'.out _ (below_via HBX.out hb6)).mono ?_); rintro r w7 ⟨rfl, hb7⟩))
              go_ret
              exact ⟨rfl, below_via HBX.out (below_via hb6 hb7)⟩
  · clear hF hFW h3 hlc
    have hgo' : chk 1 [F] = false ∨ (chk 1 [F] = true ∧ x < 1) ∨ (chk 1 [F] = true ∧ ¬ x < 1 ∧ (F.hd.nc : Int) < x) := by
      cases h : chk 1 [F]
      · exact .inl rfl
      · rw [h] at hgo
        have h2 : ¬ (1 ≤ x ∧ x ≤ F.hd.nc) := fun k => hgo ⟨rfl, k⟩
        by_cases hx : x < 1
        · exact .inr (.inl ⟨rfl, hx⟩)
        · exact .inr (.inr ⟨rfl, hx, by omega⟩)
    clear hgo hT
    rcases hgo' with hc | ⟨hc, hx⟩ | ⟨hc, hx, hxx⟩
    · rw [hc] at KC
      have KC' := Lib.hid KC
      clear KC hc
      go_enter Tryd.func8, Tryd.ntmps8
      go_wp2_with (first | (go_at_call 10; (with_reducible refine KC'.out.mono ?_); rintro r w1 ⟨rfl, hb1⟩; rw [show chkV false = 80 from rfl]) | (go_at_call 9; (with_reducible refine (KA.out _ (below_via HB.out hb1)).mono ?_); rintro r w2 ⟨rfl, hb2⟩))
      go_ret
      exact ⟨rfl, below_via HB.out (below_via hb1 hb2)⟩
    · rw [hc] at KC
      have KC' := Lib.hid KC
      clear KC hc
      go_enter Tryd.func8, Tryd.ntmps8
      go_wp2_with (first | (go_at_call 10; (with_reducible refine KC'.out.mono ?_); rintro r w1 ⟨rfl, hb1⟩; rw [show chkV true = 0 from rfl]) | (go_at_call 9; (with_reducible refine (KA.out _ (below_via HB.out hb1)).mono ?_); rintro r w2 ⟨rfl, hb2⟩))
      go_ret
      exact ⟨rfl, below_via HB.out (below_via hb1 hb2)⟩
    · rw [hc] at KC
      have KC' := Lib.hid KC
      clear KC hc
      go_enter Tryd.func8, Tryd.ntmps8
      go_wp2_with (first | (go_at_call 10; (with_reducible refine KC'.out.mono ?_); rintro r w1 ⟨rfl, hb1⟩; rw [show chkV true = 0 from rfl]; obtain ⟨k1, k2, k3⟩ := H3.out _ hb1; have f4 := (k1.cell 4).trans rfl) | (go_at_call 9; (with_reducible refine (KA.out _ (below_via HB.out hb1)).mono ?_); rintro r w2 ⟨rfl, hb2⟩))
      go_ret
      exact ⟨rfl, below_via HB.out (below_via hb1 hb2)⟩
theorem call {H : Type} {enc : TypeId × Value → H} {W : World} {base : Nat} {v0 : Value} {d0 : DataW H} {p0 : List MemPlace} {v1 : Value} {d1 : DataW H} {p1 : List MemPlace}
    (hL : Tab W) (o0 : Value.okWide Tryd.prog W .any base 36 v0) (h0 : DataW.Trod enc Tryd.prog W 0 (fun _ => true) true 36 v0 d0 p0) (o1 : Value.okWide Tryd.prog W .any base 3 v1) (h1 : DataW.Trod enc Tryd.prog W 0 (fun _ => true) true 3 v1 d1 p1) (z0 : ∀ n ∈ d0.weights Tryd.prog 36, n ≤ reachBytes) (z1 : ∀ n ∈ d1.weights Tryd.prog 3, n ≤ reachBytes) :
    Calls Tryd.prog 8 #[v0, v1] W fun e w' => e = .returned (.bool true) ∧ Below W.heap.size W w' := by
  obtain ⟨F, rfl, hq⟩ := open_func o0 h0 z0
  obtain ⟨fuel, h'⟩ := h1
  obtain ⟨x, hx, _, hxw⟩ := DataW.trod_int Tryd.underlying3 h'
  have hxx : v1 = .int .i64 x := by
    obtain ⟨y, rfl⟩ := okWide_int Tryd.underlying3 o1
    simpa [Value.cells] using hx
  subst hxx
  have hr : x ≤ 9223372036854775807 ∧ -9223372036854775808 ≤ x := by simp [Lit.wf, IntKind.min, IntKind.max, IntKind.bits, IntKind.signed] at hxw; omega
  exact walk W hL F hq x hr.1 hr.2
theorem own : ownKnob Tryd.prog.godebug = none := by kernel_rfl
theorem laidOut : laidOutB Tryd.prog = true := by kernel_rfl
set_option maxHeartbeats 0 in
/-- what the walk gives. -/
theorem contract (H : Type) (enc : TypeId × Value → H) (W : World) (base : Nat) (args : Array Value) (ds gs : List (DataW H)) (before : List MemPlace)
    (hval : ∀ (j : Nat) t v, Tryd.f8.params[j]? = some t → args[j]? = some v → Value.okWide Tryd.prog W .any base t v)
    (hW : DataW.Whole enc Tryd.prog Tryd.f8.params.toList Rows.codeCutSpec.vars false W args.toList ds gs before)
    (hsz : (DataW.weightsEach Tryd.prog (Tryd.f8.params.toList ++ Rows.codeCutSpec.plain.varTypes Tryd.prog) (ds ++ gs)).all (· ≤ reachBytes) = true) (hL : laidMetH Tryd.prog Rows.codeCutRow.laid W) :
    Calls Tryd.prog 8 args W fun e W' => ∃ v, e = .returned v ∧ Rows.codeCutSpec.post enc Tryd.prog Tryd.f8 false true false false W args v W' := by
  have hW' := hW
  obtain ⟨p, q, hA0, hV, rfl, hfz, hnd⟩ := hW
  have hA : DataW.TrodAll enc Tryd.prog W 0 (fun _ => true) true Tryd.f8.params.toList args.toList ds p := hA0
  rw [Tryd.params8] at hA hval hsz
  obtain ⟨v0, vs0, d0, ds0, p0, q0, hargs, rfl, rfl, h0, r0⟩ := trodAll_cons hA
  obtain ⟨v1, vs1, d1, ds1, p1, q1, rfl, rfl, rfl, h1, r1⟩ := trodAll_cons r0
  obtain ⟨rfl, rfl, rfl⟩ := trodAll_nil r1
  obtain rfl : args = #[v0, v1] := by cases args; simp_all
  obtain ⟨rfl, rfl⟩ := trodVars_none hV
  clear hA0
  simp only [List.append_nil] at hW'
  have lt0 : ∀ x ∈ p0, x.block < W.heap.size := fun x hx => hW'.lt x (by simp [hx])
  have lt1 : ∀ x ∈ p1, x.block < W.heap.size := fun x hx => hW'.lt x (by simp [hx])
  refine (call (tab_of hL) (hval 0 36 v0 rfl rfl) h0 (hval 1 3 v1 rfl rfl) h1 (fun n hn => by have := List.all_eq_true.1 hsz n (DataW.weights_mem_each (j := 0) (t := 36) rfl rfl n hn); simpa using this) (fun n hn => by have := List.all_eq_true.1 hsz n (DataW.weights_mem_each (j := 1) (t := 3) rfl rfl n hn); simpa using this)).mono fun e W' ⟨he, bel⟩ => ?_
  subst he
  exact ⟨_, rfl, _, _, _, [], _, [], hW', (trodAll_cons_mk (shut_bool Tryd.underlying4 _) trodAll_mk0), (trodAll_cons_mk (Below.trod laidOut (by kernel_rfl) (of_decide_eq_true (by kernel_rfl)) h0 bel lt0) (trodAll_cons_mk (Below.trod laidOut (by kernel_rfl) (of_decide_eq_true (by kernel_rfl)) h1 bel lt1) trodAll_mk0)), rfl, bel.frame _, fun h => by cases h⟩
theorem laid_met (os : Os) : laidMet Tryd.prog Rows.codeCutRow.laid ((laidWorld os).forCall (fun _ _ => 0) ⟨#[], #[.agg #[.string ⟨#[]⟩, .int .i64 0, .int .i64 0, .bool false, .slice none 0 0, .slice none 0 0, .slice none 0 0, .slice none 0 0], .int .i64 0], []⟩).memory :=
  laidMet_of_run' 8 (by kernel_rfl) (by kernel_rfl)
theorem reads (os : Os) {H : Type} (enc : TypeId × Value → H) : ∃ places, DataW.whole enc Tryd.prog ((laidWorld os).forCall (fun _ _ => 0) ⟨#[], #[.agg #[.string ⟨#[]⟩, .int .i64 0, .int .i64 0, .bool false, .slice none 0 0, .slice none 0 0, .slice none 0 0, .slice none 0 0], .int .i64 0], []⟩).memory Tryd.f8.params.toList Rows.codeCutSpec.vars false #[.agg #[.string ⟨#[]⟩, .int .i64 0, .int .i64 0, .bool false, .slice none 0 0, .slice none 0 0, .slice none 0 0, .slice none 0 0], .int .i64 0].toList 8 = some ([.agg [.lit (.string []), .lit (.int .i64 0), .lit (.int .i64 0), .lit (.bool false), .nil, .nil, .nil, .nil], .lit (.int .i64 0)], [], places) :=
  ⟨[], by kernel_rfl⟩
set_option maxRecDepth 100000 in
theorem lifted (os : Os) (started : os.Started) (H : Type) (enc : TypeId × Value → H) (F : Stop.Interp) :
    ReturnsInHanded {} Tryd.checked os 8 .any ((OpenSpec.ofChange Rows.codeCutSpec).preRow enc Tryd.prog Tryd.f8 Rows.codeCutRow.domain false Rows.codeCutRow.laid) (((OpenSpec.ofChange Rows.codeCutSpec).at F).post enc Tryd.prog Tryd.f8 false true false false) := by
  obtain ⟨places, hx⟩ := reads os enc
  refine returnsInHanded_of_row (C := Tryd.checked) (s := OpenSpec.ofChange Rows.codeCutSpec) own started (by kernel_rfl) Tryd.func8
    (witness_row_at (enc := enc) (C := Tryd.checked) false (laidWorld os) #[.agg #[.string ⟨#[]⟩, .int .i64 0, .int .i64 0, .bool false, .slice none 0 0, .slice none 0 0, .slice none 0 0, .slice none 0 0], .int .i64 0] rfl (by kernel_rfl) (by kernel_rfl) (by kernel_rfl)
      (OpenSpec.preRow_of_cond 8 hx (by kernel_rfl) (fun k hk => by cases hk) (by kernel_rfl) (laid_met os))) ?_
  intro W base args ds gs before hval hW _ hcond hsz hL _ _
  exact contract H enc W base args ds gs before hval hW hsz hL
set_option maxHeartbeats 0 in
theorem over : Rows.codeCutRow.holds Tryd.pinned (OpenSpec.ofChange Rows.codeCutSpec) :=
  OpenClaim.holds_of_cond 8 Tryd.f8 rfl rfl rfl rfl rfl rfl rfl ⟨rfl, rfl, rfl, rfl, rfl⟩ rfl rfl rfl rfl rfl (by as_aux_lemma => kernel_rfl) Tryd.func8 (by as_aux_lemma => kernel_rfl)
    (of_decide_eq_true (by as_aux_lemma => kernel_rfl)) (by as_aux_lemma => unfold Func.isWrapper; first | (rw [if_pos (by decide +kernel)]; kernel_rfl) | (rw [if_neg (by decide +kernel)]; exact ⟨rfl, rfl⟩))
    (fun os started H enc _ F => by rw [OpenClaim.pre_eq_preRow]; exact lifted os started H enc F)
theorem plain (f : FuncId) (fn : Func) (hf : Tryd.pinned.checked.prog.funcNamed "brazier/brazierlaw08.CodeCut" = some f) (hfn : Tryd.pinned.checked.prog.funcs[f]? = some fn) :
    false = Tryd.pinned.checked.prog.looks [] ∧ ∀ (j : Nat) t, fn.params[j]? = some t → Tryd.pinned.checked.prog.wantsStandIn t = false := by
  obtain rfl : f = 8 := Option.some.inj ((show Tryd.prog.funcNamed "brazier/brazierlaw08.CodeCut" = some 8 by kernel_rfl).symm.trans hf) |>.symm
  obtain rfl : fn = Tryd.f8 := (Option.some.inj (Tryd.func8.symm.trans hfn)).symm
  refine ⟨by kernel_rfl, fun j t ht => ?_⟩
  rw [Tryd.params8] at ht
  have hm : t = 36 ∨ t = 3 := by simpa using Array.mem_of_getElem? ht
  rcases hm with rfl | rfl
  · exact (show Tryd.prog.wantsStandIn 36 = false by kernel_rfl)
  · exact (show Tryd.prog.wantsStandIn 3 = false by kernel_rfl)
theorem proved : Rows.CodeCutCardSaid :=
  Claim7.holds_tied_plain_at .later [] _ _ _ _ over (fun _ h => by cases h) (by kernel_rfl) (fun _ h => by cases h) codeCut_row_tie rfl ⟨rfl, rfl⟩ (by kernel_rfl) rfl plain (by kernel_rfl)
#print axioms proved
end Go.Proofs.YteagkdmefmpokaaDoor.codeCut
namespace Go.Proofs.YteagkdmefmpokaaDoor
theorem codeCut_holds : Rows.CodeCutCardSaid := codeCut.proved
end Go.Proofs.YteagkdmefmpokaaDoor
