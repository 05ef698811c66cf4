/- For every program and every constant the call of CodeMore returns true, and its arguments read as before; the package-level table starts as the program's text lays it (the card ties it). -/
import Derived.Test.YteagkdmefmpokaaDoorEr
import Derived.Test.YteagkdmefmpokaaDoorCards
import Derived.Test.YteagkdmefmpokaaDoorTie
import Derived.ProofKit
import Derived.OpenShut
import Derived.Carry
import Derived.Deep.DeepHandedRow
import Derived.Lib.LaidTab
import Derived.JoinedOf
import Derived.SizedLaws
import Derived.JoinedCond
namespace Go.Proofs.YteagkdmefmpokaaDoor.codeMore
open Go.ChangeShapes Go.WideShapes Go.ChangeAt Go.RowKit Go.Deep Go
set_option linter.unusedSimpArgs false
set_option linter.unusedVariables false
abbrev two2 (w : World) (A : Option Addr) (n c : Nat) (m : Cn) : World := (w.alloc (.cells #[.slice A n c] 24)).alloc (.cells #[.bool m.t, .int .u64 m.n, .string m.s] 43)
theorem two2_cells {w W : World} {A : Option Addr} {n c : Nat} {m : Cn} (b : Below (two2 w A n c m).heap.size (two2 w A n c m) W) : W.cell? ⟨w.heap.size, 0, none⟩ = some (.slice A n c) ∧ w.heap.size < W.heap.size ∧ W.cell? ⟨w.heap.size + 1, 0, none⟩ = some (.bool m.t) ∧ W.cell? ⟨w.heap.size + 1, 1, none⟩ = some (.int .u64 m.n) ∧ W.cell? ⟨w.heap.size + 1, 2, none⟩ = some (.string m.s) ∧ w.heap.size + 1 < W.heap.size := by
  have B1 := (Blk.new w 24 #[.slice A n c]).alloc (.cells #[.bool m.t, .int .u64 m.n, .string m.s] 43)
  have B2 := Blk.new (w.alloc (.cells #[.slice A n c] 24)) 43 #[.bool m.t, .int .u64 m.n, .string m.s]
  rw [size_alloc] at B2
  have k1 := B1.below b B1.lt
  have k2 := B2.below b B2.lt
  exact ⟨(k1.cell 0).trans rfl, k1.lt, (k2.cell 0).trans rfl, (k2.cell 1).trans rfl, (k2.cell 2).trans rfl, k2.lt⟩
/-- a copy whose constants may be more. -/
def Cons (B g : Nat) (F : Fn) (re : Int) (w0 wx : World) : Prop := ∃ (A' : Option Addr) (n' c' : Nat) (K' : List Cn), Blk wx g 36 #[.string F.hd.nm, .int .i64 F.hd.pa, .int .i64 re, .bool F.hd.ge, .slice F.hd.Ac F.hd.nc F.hd.cc, .slice A' n' c', .slice F.hd.Ap F.hd.np F.hd.cp, .slice F.hd.Ah F.hd.nh F.hd.ch] ∧ KS B wx A' n' K' ∧ F.hd.nk ≤ n' ∧ (F.hd.nk ≤ 65536 → n' ≤ 65536) ∧ (∀ (k : Nat) (y : Cn), F.K[k]? = some y → K'[k]? = some y) ∧ Below w0.heap.size w0 wx
theorem chk_nums {n : Nat} {Fs : List Fn} {F : Fn} (hc : chk n Fs = true) (hF : F ∈ Fs) : 0 ≤ F.hd.re ∧ F.hd.re ≤ 400 ∧ F.hd.nk ≤ 65536 := by
  simp only [chk, Bool.and_eq_true] at hc
  have hf := List.all_eq_true.1 hc.2.1 F hF
  simp only [fnOk, okHead, Bool.and_eq_true, decide_eq_true_eq] at hf
  obtain ⟨⟨_, _, h1, h2, h3, _⟩, _⟩ := hf
  exact ⟨h2, h3, h1⟩
theorem cons_leaf {B base : Nat} {F : Fn} {re : Int} {wr w10 : World} {m : Cn} {A2 : Option Addr} {qq2 : Nat} (kb2 : Blk w10 wr.heap.size 36 #[.string F.hd.nm, .int .i64 F.hd.pa, .int .i64 re, .bool F.hd.ge, .slice F.hd.Ac F.hd.nc F.hd.cc, .slice F.hd.Ak F.hd.nk F.hd.ck, .slice F.hd.Ap F.hd.np F.hd.cp, .slice F.hd.Ah F.hd.nh F.hd.ch]) (hown2 : w10.ownsRow base 43 3 (.slice A2 (F.hd.nk + 1) qq2) (F.hd.nk + 1) (kf F.K ++ kf [m])) (hB10 : Below wr.heap.size wr w10) (hle : B ≤ wr.heap.size) (hnk : F.hd.nk < 65536) : Cons B wr.heap.size F re wr (w10.setCell ⟨wr.heap.size, 5, none⟩ (.slice A2 (F.hd.nk + 1) qq2)) := by
  rw [← kf_append] at hown2
  refine ⟨A2, F.hd.nk + 1, qq2, F.K ++ [m], kb2.set_ 5 _, (KS.of_own hown2).keep (Keeps.set_ (p := ⟨wr.heap.size, 5, none⟩) kb2 (by decide) hle _), by omega, fun _ => by omega, fun k y hk => ?_, hB10.setCell (Nat.le_refl _) _⟩
  rw [List.getElem?_append_left (List.getElem?_eq_some_iff.1 hk).1]; exact hk
theorem chk_len {n : Nat} {Fs : List Fn} (hc : chk n Fs = true) : 0 < Fs.length ∧ Fs.length ≤ 200 := by
  simp only [chk, headOk, Bool.and_eq_true, decide_eq_true_eq] at hc
  exact ⟨hc.1.1, hc.1.2.1⟩
theorem made_at {Fs Gs : List Fn} {k : Nat} {F G : Fn} (h : ∀ (i : Nat) (F : Fn), i < k → Fs[i]? = some F → ∃ G, Gs[i]? = some G ∧ More F G) (hl : Gs.length = k) (hx : Fs[k]? = some F) (m : More F G) : ∀ (i : Nat) (F : Fn), i < k + 1 → Fs[i]? = some F → ∃ G', (Gs ++ [G])[i]? = some G' ∧ More F G' := by
  intro i F' hi hF'
  by_cases hik : i < k
  · obtain ⟨G', h1, h2⟩ := h i F' hik hF'
    exact ⟨G', by rw [List.getElem?_append_left (by omega)]; exact h1, h2⟩
  · have : i = k := by omega
    subst this
    rw [hx] at hF'
    cases hF'
    exact ⟨G, by subst hl; simp, m⟩
theorem made_keep {Fs Gs : List Fn} {k : Nat} {F : Fn} (h : ∀ (i : Nat) (F : Fn), i < k → Fs[i]? = some F → ∃ G, Gs[i]? = some G ∧ More F G) : ∀ (i : Nat) (F' : Fn), i < k → Fs[i]? = some F' → ∃ G', (Gs ++ [F])[i]? = some G' ∧ More F' G' := by
  intro i F' hi hF'
  obtain ⟨G', h1, h2⟩ := h i F' hi hF'
  exact ⟨G', by rw [List.getElem?_append_left (List.getElem?_eq_some_iff.1 h1).1]; exact h1, h2⟩
set_option maxRecDepth 100000 in
set_option maxHeartbeats 16000000 in
theorem walk (w : World) (hT : Tab w) (A : Option Addr) (n c : Nat) (Fs : List Fn) (m : Cn) (hP : PIs w A n Fs) (hQ : ∀ F ∈ Fs, FQ w F) : Calls Tryd.prog 6 #[pv A n c, .agg #[.bool m.t, .int .u64 m.n, .string m.s]] w fun e w' => e = .returned (.bool true) ∧ Below w.heap.size w w' := by
  obtain ⟨i43, hi43, hz430, hz431, hz432⟩ := info_parts info43
  obtain ⟨i36, hi36, hz360, hz361, hz362⟩ := info_parts info36
  have HB := Lib.hid (below_alloc (below_new w (.cells #[.slice A n c] 24)) (.cells #[.bool m.t, .int .u64 m.n, .string m.s] 43))
  have HP := Lib.hid (fun (W : World) (b : Below w.heap.size w W) => hP.later b)
  have HT := Lib.hid (fun (W : World) (b : Below w.heap.size w W) => hT.later b)
  have HC := Lib.hid (fun (W : World) (b : Below (two2 w A n c m).heap.size (two2 w A n c m) W) => two2_cells b)
  have KA := Lib.hid (fun (W : World) (b : Below w.heap.size w W) => alive_calls W (hT.later b))
  have KC := check_calls (two2 w A n c m) A n c Fs (hT.later HB.out) (hP.later HB.out)
  have hl := Lib.hid (reads_len8 hP.rd)
  have hn := hP.n
  have HQ := Lib.hid hQ
  have HPI := Lib.hid hP
  unfold pv two2 at *
  cases hc : chk n Fs
  · rw [hc] at KC
    have KC' := Lib.hid KC
    clear KC hP hT hc hQ
    go_enter Tryd.func6, Tryd.ntmps6
    go_wp2_with (first | (go_at_call 10; (with_reducible refine KC'.out.mono ?_); rintro r w1 ⟨rfl, hb1⟩; rw [show chkV false = 80 from rfl]) | (go_at_call 9; (with_reducible refine (KA.out _ (below_via HB.out hb1)).mono ?_); rintro r w2 ⟨rfl, hb2⟩))
    go_ret
    exact ⟨rfl, below_via HB.out (below_via hb1 hb2)⟩
  · rw [hc] at KC
    have KC' := Lib.hid KC
    have HCK := Lib.hid hc
    clear KC hP hT hc hQ
    go_enter Tryd.func6, Tryd.ntmps6
    go_wp2_with (first | (go_at_call 10; (with_reducible refine KC'.out.mono ?_); rintro r w1 ⟨rfl, hb1⟩; rw [show chkV true = 0 from rfl]; obtain ⟨p0, plt, m0, m1, m2, mlt⟩ := HC.out _ hb1; have HB1 := Lib.hid hb1; clear hb1))
    have hM0 : Made w1 w1.heap.size w1.heap.size Fs 0 (w1.alloc (.cells #[.slice none 0 0] 24)) (.slice none 0 0) [] := ⟨Blk.new _ _ _, World.ownsRow_nil _ _ _ _, (by simp), (by simp), (fun i F h _ => by omega), below_new _ _⟩
    have HM0 := Lib.hid hM0
    clear hM0
    go_loopg [15] n (fun f i wr => ∃ (k : Nat) (v : Value) (Gs : List Fn), i = .int .i64 k ∧ k + f = n ∧ Gs.length = k ∧ Made w1 w1.heap.size w1.heap.size Fs k wr v Gs)
    case atStart => exact ⟨0, _, _, rfl, by omega, rfl, HM0.out⟩
    case round =>
      clear p0 plt m0 m1 m2 mlt HM0
      obtain ⟨k, v, Gs, rfl, hf, hGl, hM⟩ := hrel
      have HGL := Lib.hid hGl
      clear hGl
      have HM := Lib.hid hM
      have HFF := Lib.hid hf
      have hbw := below_via HB.out (below_via HB1.out hM.old)
      have HBW := Lib.hid hbw
      by_cases hk : k < n
      · obtain ⟨F, hx⟩ : ∃ F, Fs[k]? = some F := ⟨_, List.getElem?_eq_getElem (by have := hl.out; omega)⟩
        obtain ⟨b, off, hA, hbl, ⟨c0, c1, c2, c3, c4, c5, c6, c7⟩⟩ := reads_at8 (HP.out wr hbw).rd hx
        subst hA
        have hmem := List.mem_of_getElem? hx
        have hk' : (k : Int) < n := by omega
        obtain ⟨f', hf'⟩ : ∃ f', gk = f' + 1 := ⟨gk - 1, by omega⟩
        have HF' := Lib.hid hf'
        have HX := Lib.hid hx
        have HMEM := Lib.hid hmem
        obtain ⟨hre0, hre4, hnk6⟩ := chk_nums HCK.out hmem
        have HNK6 := Lib.hid hnk6
        clear hx hf hf' hM hbw hmem hnk6
        go_upto_if 21 with (fail)
        go_cut [22] from 22 to 25 (fun s22 wx => ∃ re : Int, F.hd.re ≤ re ∧ (F.hd.re ≤ 400 → re ≤ 400) ∧ wx = wr.alloc (.cells #[.string F.hd.nm, .int .i64 F.hd.pa, .int .i64 re, .bool F.hd.ge, .slice F.hd.Ac F.hd.nc F.hd.cc, .slice F.hd.Ak F.hd.nk F.hd.ck, .slice F.hd.Ap F.hd.np F.hd.cp, .slice F.hd.Ah F.hd.nh F.hd.ch] 36))
        case first =>
          by_cases hre : F.hd.re < 400
          · go_wp2_with fail
            go_meet
            exact ⟨F.hd.re + 1, by omega, by omega, rfl⟩
          · go_wp2_with fail
            go_meet
            exact ⟨F.hd.re, Int.le_refl _, id, rfl⟩
        case rest =>
          obtain ⟨re, hr1, hr2, hw⟩ := hcut
          rw [hw]
          clear hw c0 c1 c2 c3 c4 c5 c6 c7
          have HR1 := Lib.hid hr1
          have HR2 := Lib.hid hr2
          clear hr1 hr2
          obtain ⟨p0, plt, m0, m1, m2, mlt⟩ := HC.out wr (below_via HB1.out HM.out.old)
          have HKB := Lib.hid (Blk.new wr 36 #[.string F.hd.nm, .int .i64 F.hd.pa, .int .i64 re, .bool F.hd.ge, .slice F.hd.Ac F.hd.nc F.hd.cc, .slice F.hd.Ak F.hd.nk F.hd.ck, .slice F.hd.Ap F.hd.np F.hd.cp, .slice F.hd.Ah F.hd.nh F.hd.ch])
          have HFI := Lib.hid ((HPI.out.is F HMEM.out).later (below_via HB.out (below_via HB1.out HM.out.old)))
          have HOLD := Lib.hid (KS.of_old (B := w1.heap.size) (below_via HB.out HB1.out).size (HPI.out.is F HMEM.out).con (below_via HB.out (below_via HB1.out HM.out.old)))
          go_upto_region 9 with (fail)
          go_cut [29] from 26 to 29 (fun s29 wx => ∃ z, s29 = .bool z ∧ (z = true ↔ F.hd.nk < 65536) ∧ wx = wr.alloc (.cells #[.string F.hd.nm, .int .i64 F.hd.pa, .int .i64 re, .bool F.hd.ge, .slice F.hd.Ac F.hd.nc F.hd.cc, .slice F.hd.Ak F.hd.nk F.hd.ck, .slice F.hd.Ap F.hd.np F.hd.cp, .slice F.hd.Ah F.hd.nh F.hd.ch] 36))
          case first =>
            go_wp2_with fail
            go_meet
            exact ⟨_, rfl, by rw [decide_eq_true_iff]; omega, rfl⟩
          case rest =>
          obtain ⟨z, rfl, hz, hw⟩ := hcut
          rw [hw]
          have HZ := Lib.hid hz
          clear hw hz
          go_upto_if 29 with (fail)
          go_cut [30] from 30 to 37 (fun s30 wx => Cons w1.heap.size wr.heap.size F re wr wx)
          case first =>
            cases z
            · go_wp2_with fail
              go_meet
              exact ⟨F.hd.Ak, F.hd.nk, F.hd.ck, F.K, HKB.out, HOLD.out.keep (Keeps.alloc _ _ _), Nat.le_refl _, id, fun _ _ h => h, below_new _ _⟩
            · have HNK := Lib.hid (HZ.out.1 rfl)
              have HKc := Lib.hid (fun (W : World) (b : Below wr.heap.size wr W) => HFI.out.con.below b)
              go_upto_region 10 with (fail)
              go_region_law (first | (refine step_append_any _ rfl (.tmp 30) (.tmp 32) 32 rfl wr.heap.size 43 i43 _ 3 32 Tryd.underlying32 hi43 hz430 hz431 hz432 rfl (by decide) (.slice (some ⟨wr.heap.size + 1, 0, none⟩) 0 0) 0 [] rfl ((own_fresh _ 43 3 (wr.heap.size + 1) wr.heap.size (by simp) (by omega)).drew) wr.heap.size F.hd.Ak F.hd.nk F.hd.ck (kf F.K) rfl (HKc.out _ (Below.drew (below_alloc (below_new wr _) _))) (kf_one _) (by have := HNK.out; unfold maxLen; omega) (by have := HNK.out; omega) (by simp; omega) ?_; intro v1 w9 hown hgrow hat; simp only [Nat.zero_add, List.nil_append] at hown; obtain ⟨A1, qq, rfl, _⟩ := own_slice hown; have kb := Blk.grown ((HKB.out.alloc _).drew) hgrow (by simp [Value.ownBlock] <;> omega); have hB9 := ((Below.drew (below_alloc (below_new wr _) _))).grown hgrow ((Below.drew (below_alloc (below_new wr _) _))).size (fun k hk => by simp [Value.ownBlock] at hk; omega); have n0 := (hB9.cell (p := ⟨w.heap.size + 1, 0, none⟩) mlt).trans m0; have n1 := (hB9.cell (p := ⟨w.heap.size + 1, 1, none⟩) mlt).trans m1; have n2 := (hB9.cell (p := ⟨w.heap.size + 1, 2, none⟩) mlt).trans m2; clear hat) | (refine step_append_any _ rfl (.tmp 30) (.tmp 32) 32 rfl wr.heap.size 43 i43 _ 3 32 Tryd.underlying32 hi43 hz430 hz431 hz432 rfl (by decide) (.slice (some ⟨wr.heap.size + 1, 0, none⟩) 0 0) 0 [] rfl (((own_fresh _ 43 3 (wr.heap.size + 1) wr.heap.size (by simp) (by omega)).alloc _).drew) wr.heap.size F.hd.Ak F.hd.nk F.hd.ck (kf F.K) rfl (HKc.out _ (Below.drew (below_alloc (below_alloc (below_new wr _) _) _))) (kf_one _) (by have := HNK.out; unfold maxLen; omega) (by have := HNK.out; omega) (by simp; omega) ?_; intro v1 w9 hown hgrow hat; simp only [Nat.zero_add, List.nil_append] at hown; obtain ⟨A1, qq, rfl, _⟩ := own_slice hown; have kb := Blk.grown (((HKB.out.alloc _).alloc _).drew) hgrow (by simp [Value.ownBlock] <;> omega); have hB9 := ((Below.drew (below_alloc (below_alloc (below_new wr _) _) _))).grown hgrow ((Below.drew (below_alloc (below_alloc (below_new wr _) _) _))).size (fun k hk => by simp [Value.ownBlock] at hk; omega); have n0 := (hB9.cell (p := ⟨w.heap.size + 1, 0, none⟩) mlt).trans m0; have n1 := (hB9.cell (p := ⟨w.heap.size + 1, 1, none⟩) mlt).trans m1; have n2 := (hB9.cell (p := ⟨w.heap.size + 1, 2, none⟩) mlt).trans m2; have hk2 := Blk.grown ((blk_at _ (wr.heap.size + 1 + 1) 43 #[.bool m.t, .int .u64 m.n, .string m.s] (by simp)).drew) hgrow (by simp [Value.ownBlock] <;> omega); clear hat) | (refine step_append_any _ rfl (.tmp 30) (.tmp 32) 32 rfl wr.heap.size 43 i43 _ 3 32 Tryd.underlying32 hi43 hz430 hz431 hz432 rfl (by decide) (.slice (some ⟨wr.heap.size + 1 + 1, 0, none⟩) 0 0) 0 [] rfl ((own_fresh _ 43 3 (wr.heap.size + 1 + 1) wr.heap.size (by simp) (by omega)).drew) wr.heap.size F.hd.Ak F.hd.nk F.hd.ck (kf F.K) rfl (HKc.out _ (Below.drew (below_alloc (below_alloc (below_new wr _) _) _))) (kf_one _) (by have := HNK.out; unfold maxLen; omega) (by have := HNK.out; omega) (by simp; omega) ?_; intro v1 w9 hown hgrow hat; simp only [Nat.zero_add, List.nil_append] at hown; obtain ⟨A1, qq, rfl, _⟩ := own_slice hown; have kb := Blk.grown (((HKB.out.alloc _).alloc _).drew) hgrow (by simp [Value.ownBlock] <;> omega); have hB9 := ((Below.drew (below_alloc (below_alloc (below_new wr _) _) _))).grown hgrow ((Below.drew (below_alloc (below_alloc (below_new wr _) _) _))).size (fun k hk => by simp [Value.ownBlock] at hk; omega); have n0 := (hB9.cell (p := ⟨w.heap.size + 1, 0, none⟩) mlt).trans m0; have n1 := (hB9.cell (p := ⟨w.heap.size + 1, 1, none⟩) mlt).trans m1; have n2 := (hB9.cell (p := ⟨w.heap.size + 1, 2, none⟩) mlt).trans m2; have hk2 := Blk.grown (((blk_at _ (wr.heap.size + 1) 43 #[.bool m.t, .int .u64 m.n, .string m.s] (by simp)).alloc _).drew) hgrow (by simp [Value.ownBlock] <;> omega); clear hat) | (refine step_append_any _ rfl (.tmp 33) (.tmp 35) 32 rfl wr.heap.size 43 i43 _ 3 32 Tryd.underlying32 hi43 hz430 hz431 hz432 rfl (by decide) _ _ _ rfl (hown.alloc (.cells #[.bool m.t, .int .u64 m.n, .string m.s] 43)) _ _ 1 1 (kf [m]) rfl (reads_blk (blk_at w9 _ 43 #[.bool m.t, .int .u64 m.n, .string m.s] rfl) rfl) (kf_one _) (by have := HNK.out; unfold maxLen; omega) (by have := HNK.out; omega) (by have := hB9.size; simp; omega) ?_; intro v2 w10 hown2 hgrow2 _; obtain ⟨A2, qq2, rfl, _⟩ := own_slice hown2; have kb2 := Blk.grown (kb.alloc (.cells #[.bool m.t, .int .u64 m.n, .string m.s] 43)) hgrow2 (fun e => own_blk_ne (hown.alloc (.cells #[.bool m.t, .int .u64 m.n, .string m.s] 43)) (kb.alloc (.cells #[.bool m.t, .int .u64 m.n, .string m.s] 43)) (by decide) e.symm); have e5 := kb2.cell 5; have fr5 := kb2.frozen 5; have hB10 := ((below_alloc hB9 (.cells #[.bool m.t, .int .u64 m.n, .string m.s] 43))).grown hgrow2 ((below_alloc hB9 (.cells #[.bool m.t, .int .u64 m.n, .string m.s] 43))).size (fun k hk => ((World.ownsRow.lt (hown.alloc (.cells #[.bool m.t, .int .u64 m.n, .string m.s] 43))) k hk).1)) | (refine step_append_any _ rfl (.tmp 33) (.tmp 35) 32 rfl wr.heap.size 43 i43 _ 3 32 Tryd.underlying32 hi43 hz430 hz431 hz432 rfl (by decide) _ _ _ rfl hown _ _ 1 1 (kf [m]) rfl (reads_blk hk2 rfl) (kf_one _) (by have := HNK.out; unfold maxLen; omega) (by have := HNK.out; omega) (by have := hB9.size; simp; omega) ?_; intro v2 w10 hown2 hgrow2 _; obtain ⟨A2, qq2, rfl, _⟩ := own_slice hown2; have kb2 := Blk.grown kb hgrow2 (fun e => own_blk_ne hown kb (by decide) e.symm); have e5 := kb2.cell 5; have fr5 := kb2.frozen 5; have hB10 := (hB9).grown hgrow2 (hB9).size (fun k hk => ((World.ownsRow.lt hown) k hk).1)))
              all_goals (go_wp2_with fail; go_meet; exact cons_leaf kb2 hown2 hB10 HM.out.old.size HNK.out)
          case rest =>
            obtain ⟨A', n', c', K', kb, hks, hn1, hn2, hget, hbel⟩ := hcut
            have HKS := Lib.hid hks
            have HN1 := Lib.hid hn1
            have HN2 := Lib.hid hn2
            have HGET := Lib.hid hget
            have HBEL := Lib.hid hbel
            have HN200 := Lib.hid (chk_len HCK.out)
            have kq := HM.out.q.below hbel HM.out.q.lt
            have q0 := kq.cell 0
            have fq0 := kq.frozen 0
            have e0 := kb.cell 0
            have e1 := kb.cell 1
            have e2 := kb.cell 2
            have e3 := kb.cell 3
            have e4 := kb.cell 4
            have e5 := kb.cell 5
            have e6 := kb.cell 6
            have e7 := kb.cell 7
            have HMORE : Hid (More F (moreF F re A' n' c' K')) := Lib.hid ⟨rfl, rfl, rfl, rfl, rfl, rfl, rfl, HR1.out, HR2.out, hn1, hn2, hget⟩
            have HOWN := Lib.hid (own_below hbel HM.out.own)
            clear hks hn1 hn2 hget hbel
            go_wp2_with (first | (at_builtin; go_must (refine wpList_append_any _ rfl (.tmp 39) (.tmp 41) 22 rfl w1.heap.size 36 i36 _ 8 136 Tryd.underlying22 hi36 hz360 hz361 hz362 rfl (by decide) v Gs.length (hf Gs) rfl (HOWN.out.alloc _) (wc.heap.size + 1) (some ⟨wc.heap.size, 0, none⟩) 1 1 (hdf (moreH F.hd re A' n' c')) rfl (reads_hd wc (moreH F.hd re A' n' c')) (hd_one _) (by have := HN200.out; have := HGL.out; have := hl.out; unfold maxLen; omega) (by have := HN200.out; have := HGL.out; have := hl.out; omega) (by have := HM.out.old.size; have := HBEL.out.size; rw [size_alloc]; omega) ?_); intro v9 w9 hown9 hgrow9 _; obtain ⟨A9, c9, rfl, _⟩ := own_slice hown9; have kq9 := (kq.alloc (moreH F.hd re A' n' c').o).grown hgrow9 (fun e => own_blk_ne (HOWN.out.alloc (moreH F.hd re A' n' c').o) (kq.alloc (moreH F.hd re A' n' c').o) (by decide) e.symm); have q0 := kq9.cell 0; have fq0 := kq9.frozen 0))
            go_roundg f'
            case measure => have := HF'.out; omega
            case rel => exact ⟨k + 1, _, Gs ++ [moreF F re A' n' c' K'], by simp, by have := HF'.out; have := HFF.out; omega, by rw [List.length_append, HGL.out]; rfl, made_push HM.out (below_alloc HBEL.out _) HMEM.out HMORE.out rfl rfl rfl rfl (HKS.out.keep (Keeps.alloc _ _ _)) hown9 hgrow9 (Nat.le_refl _) (Nat.le_refl _) (made_at HM.out.at_ HGL.out HX.out HMORE.out)⟩
      · have hkn : k = n := by have := HFF.out; omega
        have HKN := Lib.hid hkn
        have hlen := hl.out
        have HN200 := Lib.hid (chk_len HCK.out)
        obtain ⟨Av, cv, rfl, _⟩ := own_slice HM.out.own
        obtain ⟨F, hx⟩ : ∃ F, Fs[0]? = some F := ⟨_, List.getElem?_eq_getElem (by have := HN200.out; omega)⟩
        obtain ⟨b, off, hA, hbl, ⟨c0, c1, c2, c3, c4, c5, c6, c7⟩⟩ := reads_at8 (HP.out wr hbw).rd hx
        subst hA
        obtain ⟨p0, plt, m0, m1, m2, mlt⟩ := HC.out wr (below_via HB1.out hM.old)
        have kq := hM.q
        have q0 := kq.cell 0
        have fq0 := kq.frozen 0
        have HMEM := Lib.hid (List.mem_of_getElem? hx)
        have kqlt := kq.lt
        have hnpos : 0 < n := by have := HN200.out; omega
        simp only [Nat.zero_mul, Nat.add_zero] at c0 c1 c2 c3 c4 c5 c6 c7
        clear hf hM hbw hx hkn hlen m0 m1 m2 mlt
        go_upto_if 48 with (fail)
        go_cut [] from 48 to 57 (fun wx => ∃ (v : Value) (Gs' : List Fn), Made w1 w1.heap.size w1.heap.size Fs n wx v Gs' ∧ n ≤ Gs'.length ∧ Gs'.length ≤ 200)
        case first =>
          by_cases h200 : (Gs.length : Int) < 200
          · go_wp2_with fail
            go_region_law (first | (go_must (refine step_append_any _ rfl (.tmp 50) (.tmp 55) 22 rfl w1.heap.size 36 i36 _ 8 136 Tryd.underlying22 hi36 hz360 hz361 hz362 rfl (by decide) (.slice Av Gs.length cv) Gs.length (hf Gs) rfl (HM.out.own.alloc _).drew (wr.heap.size + 1) (some ⟨wr.heap.size, 0, none⟩) 1 1 (hdf F.hd) rfl (reads_hd wr F.hd).drew (hd_one _) (by unfold maxLen; omega) (by omega) (by have := HM.out.old.size; simp; omega) ?_); intro v9 w9 hown9 hgrow9 _; obtain ⟨A9, c9, rfl, _⟩ := own_slice hown9; have kq9 := ((kq.alloc F.hd.o).drew).grown hgrow9 (fun e => own_blk_ne ((HM.out.own.alloc F.hd.o).drew) ((kq.alloc F.hd.o).drew) (by decide) e.symm); have q0' := kq9.cell 0; have fq0' := kq9.frozen 0))
            all_goals (go_wp2_with fail; go_meet; exact ⟨_, Gs ++ [F], made_push HM.out (Below.drew (below_new wr F.hd.o)) HMEM.out (More.refl F) rfl rfl rfl rfl ((KS.of_old (B := w1.heap.size) (below_via HB.out HB1.out).size (HPI.out.is F HMEM.out).con (below_via HB.out (below_via HB1.out HM.out.old))).keep (Keeps.alloc _ _ F.hd.o)) hown9 hgrow9 (Nat.le_refl _) (Nat.le_refl _) (made_keep (HKN.out ▸ HM.out.at_)), by have := HGL.out; have := HKN.out; rw [List.length_append]; omega, by rw [List.length_append]; simp; omega⟩)
          · go_wp2_with fail
            go_meet
            exact ⟨_, Gs, HKN.out ▸ HM.out, by have := HGL.out; have := HKN.out; omega, by have := HGL.out; have := HKN.out; have := hl.out; have := HN200.out; omega⟩
        case rest =>
          obtain ⟨v9, Gs', hM9, hn9, hn200⟩ := hcut
          obtain ⟨A9, c9, rfl, _⟩ := own_slice hM9.own
          have HM9 := Lib.hid hM9
          have hfin : chk Gs'.length Gs' = true := chk_more HCK.out hl.out rfl hn9 hn200 (fun G hG => by obtain ⟨F', h1, h2, _⟩ := hM9.from_ G hG; exact ⟨F', h1, h2⟩) (fun i F' hi => hM9.at_ i F' (by have := (List.getElem?_eq_some_iff.1 hi).1; have := hl.out; omega) hi)
          have hPI : PIs wc A9 Gs'.length Gs' := ⟨Reads.of_own hM9.own, fun G hG => by obtain ⟨F', h1, h2, h3, h4, h5, h6⟩ := hM9.from_ G hG; exact made_is (HPI.out.is F' h1) (below_via HB.out (below_via HB1.out hM9.old)) h2 h3 h4 h5 h6 (hM9.ks G hG) (h2.nk6 (chk_nums HCK.out h1).2.2), fun G hG => by obtain ⟨F', h1, h2, _⟩ := hM9.from_ G hG; have := HPI.out.fw F' h1; unfold Fn.W at *; rw [h2.C]; exact this, by omega⟩
          have hbw := below_via HB.out (below_via HB1.out hM9.old)
          have HBW := Lib.hid hbw
          have KAx := Lib.hid (alive_calls wc (HT.out _ hbw))
          have KC3 := fun (W : World) (b : Below wc.heap.size wc W) => check_calls W A9 Gs'.length c9 Gs' (HT.out W (below_via hbw b)) (hPI.later b)
          rw [hfin] at KC3
          have KC4 := Lib.hid KC3
          have KQ := Lib.hid hM9.q
          clear hM9 hfin hPI hbw KC3 q0 fq0 kqlt kq hn9 hn200
          unfold pv at KC4
          rw [show chkV true = 0 from rfl] at KC4
          go_wp2_with (first | (go_at_call 9; (with_reducible refine KAx.out.mono ?_); rintro r w6 ⟨rfl, hb6⟩; have k6 := KQ.out.below hb6 KQ.out.lt; have g0 := k6.cell 0) | (go_at_call 10; (with_reducible refine (KC4.out _ hb6).mono ?_); rintro r w7 ⟨rfl, hb7⟩))
          go_ret
          exact ⟨rfl, below_via HBW.out (below_via hb6 hb7)⟩
theorem call {H : Type} {enc : TypeId × Value → H} {W : World} {base : Nat} {v0 : Value} {d0 : DataW H} {p0 : List MemPlace} {v1 : Value} {d1 : DataW H} {p1 : List MemPlace}
    (hL : Tab W) (o0 : Value.okWide Tryd.prog W .any base 24 v0) (h0 : DataW.Trod enc Tryd.prog W 0 (fun _ => true) true 24 v0 d0 p0) (o1 : Value.okWide Tryd.prog W .any base 43 v1) (h1 : DataW.Trod enc Tryd.prog W 0 (fun _ => true) true 43 v1 d1 p1) (z0 : ∀ n ∈ d0.weights Tryd.prog 24, n ≤ reachBytes) (z1 : ∀ n ∈ d1.weights Tryd.prog 43, n ≤ reachBytes) :
    Calls Tryd.prog 6 #[v0, v1] W fun e w' => e = .returned (.bool true) ∧ Below W.heap.size W w' := by
  obtain ⟨A, n, c, Fs, rfl, hP, hQ, _⟩ := open_prog o0 h0 z0
  obtain ⟨m, rfl⟩ := open_const o1 h1
  exact walk W hL A n c Fs m hP hQ
theorem own : ownKnob Tryd.prog.godebug = none := by kernel_rfl
theorem laidOut : laidOutB Tryd.prog = true := by kernel_rfl
set_option maxHeartbeats 0 in
/-- what the walk gives. -/
theorem contract (H : Type) (enc : TypeId × Value → H) (W : World) (base : Nat) (args : Array Value) (ds gs : List (DataW H)) (before : List MemPlace)
    (hval : ∀ (j : Nat) t v, Tryd.f6.params[j]? = some t → args[j]? = some v → Value.okWide Tryd.prog W .any base t v)
    (hW : DataW.Whole enc Tryd.prog Tryd.f6.params.toList Rows.codeMoreSpec.vars false W args.toList ds gs before)
    (hsz : (DataW.weightsEach Tryd.prog (Tryd.f6.params.toList ++ Rows.codeMoreSpec.plain.varTypes Tryd.prog) (ds ++ gs)).all (· ≤ reachBytes) = true) (hL : laidMetH Tryd.prog Rows.codeMoreRow.laid W) :
    Calls Tryd.prog 6 args W fun e W' => ∃ v, e = .returned v ∧ Rows.codeMoreSpec.post enc Tryd.prog Tryd.f6 false true false false W args v W' := by
  have hW' := hW
  obtain ⟨p, q, hA0, hV, rfl, hfz, hnd⟩ := hW
  have hA : DataW.TrodAll enc Tryd.prog W 0 (fun _ => true) true Tryd.f6.params.toList args.toList ds p := hA0
  rw [Tryd.params6] at hA hval hsz
  obtain ⟨v0, vs0, d0, ds0, p0, q0, hargs, rfl, rfl, h0, r0⟩ := trodAll_cons hA
  obtain ⟨v1, vs1, d1, ds1, p1, q1, rfl, rfl, rfl, h1, r1⟩ := trodAll_cons r0
  obtain ⟨rfl, rfl, rfl⟩ := trodAll_nil r1
  obtain rfl : args = #[v0, v1] := by cases args; simp_all
  obtain ⟨rfl, rfl⟩ := trodVars_none hV
  clear hA0
  simp only [List.append_nil] at hW'
  have lt0 : ∀ x ∈ p0, x.block < W.heap.size := fun x hx => hW'.lt x (by simp [hx])
  have lt1 : ∀ x ∈ p1, x.block < W.heap.size := fun x hx => hW'.lt x (by simp [hx])
  refine (call (tab_of hL) (hval 0 24 v0 rfl rfl) h0 (hval 1 43 v1 rfl rfl) h1 (fun n hn => by have := List.all_eq_true.1 hsz n (DataW.weights_mem_each (j := 0) (t := 24) rfl rfl n hn); simpa using this) (fun n hn => by have := List.all_eq_true.1 hsz n (DataW.weights_mem_each (j := 1) (t := 43) rfl rfl n hn); simpa using this)).mono fun e W' ⟨he, bel⟩ => ?_
  subst he
  exact ⟨_, rfl, _, _, _, [], _, [], hW', (trodAll_cons_mk (shut_bool Tryd.underlying4 _) trodAll_mk0), (trodAll_cons_mk (Below.trod laidOut (by kernel_rfl) (of_decide_eq_true (by kernel_rfl)) h0 bel lt0) (trodAll_cons_mk (Below.trod laidOut (by kernel_rfl) (of_decide_eq_true (by kernel_rfl)) h1 bel lt1) trodAll_mk0)), rfl, bel.frame _, fun h => by cases h⟩
theorem laid_met (os : Os) : laidMet Tryd.prog Rows.codeMoreRow.laid ((laidWorld os).forCall (fun _ _ => 0) ⟨#[], #[.agg #[.slice none 0 0], .agg #[.bool false, .int .u64 0, .string ⟨#[]⟩]], []⟩).memory :=
  laidMet_of_run' 8 (by kernel_rfl) (by kernel_rfl)
theorem reads (os : Os) {H : Type} (enc : TypeId × Value → H) : ∃ places, DataW.whole enc Tryd.prog ((laidWorld os).forCall (fun _ _ => 0) ⟨#[], #[.agg #[.slice none 0 0], .agg #[.bool false, .int .u64 0, .string ⟨#[]⟩]], []⟩).memory Tryd.f6.params.toList Rows.codeMoreSpec.vars false #[.agg #[.slice none 0 0], .agg #[.bool false, .int .u64 0, .string ⟨#[]⟩]].toList 8 = some ([.agg [.nil], .agg [.lit (.bool false), .lit (.int .u64 0), .lit (.string [])]], [], places) :=
  ⟨[], by kernel_rfl⟩
set_option maxRecDepth 100000 in
theorem lifted (os : Os) (started : os.Started) (H : Type) (enc : TypeId × Value → H) (F : Stop.Interp) :
    ReturnsInHanded {} Tryd.checked os 6 .any ((OpenSpec.ofChange Rows.codeMoreSpec).preRow enc Tryd.prog Tryd.f6 Rows.codeMoreRow.domain false Rows.codeMoreRow.laid) (((OpenSpec.ofChange Rows.codeMoreSpec).at F).post enc Tryd.prog Tryd.f6 false true false false) := by
  obtain ⟨places, hx⟩ := reads os enc
  refine returnsInHanded_of_row (C := Tryd.checked) (s := OpenSpec.ofChange Rows.codeMoreSpec) own started (by kernel_rfl) Tryd.func6
    (witness_row_at (enc := enc) (C := Tryd.checked) false (laidWorld os) #[.agg #[.slice none 0 0], .agg #[.bool false, .int .u64 0, .string ⟨#[]⟩]] rfl (by kernel_rfl) (by kernel_rfl) (by kernel_rfl)
      (OpenSpec.preRow_of_cond 8 hx (by kernel_rfl) (fun k hk => by cases hk) (by kernel_rfl) (laid_met os))) ?_
  intro W base args ds gs before hval hW _ hcond hsz hL _ _
  exact contract H enc W base args ds gs before hval hW hsz hL
set_option maxHeartbeats 0 in
theorem over : Rows.codeMoreRow.holds Tryd.pinned (OpenSpec.ofChange Rows.codeMoreSpec) :=
  OpenClaim.holds_of_cond 6 Tryd.f6 rfl rfl rfl rfl rfl rfl rfl ⟨rfl, rfl, rfl, rfl, rfl⟩ rfl rfl rfl rfl rfl (by as_aux_lemma => kernel_rfl) Tryd.func6 (by as_aux_lemma => kernel_rfl)
    (of_decide_eq_true (by as_aux_lemma => kernel_rfl)) (by as_aux_lemma => unfold Func.isWrapper; first | (rw [if_pos (by decide +kernel)]; kernel_rfl) | (rw [if_neg (by decide +kernel)]; exact ⟨rfl, rfl⟩))
    (fun os started H enc _ F => by rw [OpenClaim.pre_eq_preRow]; exact lifted os started H enc F)
theorem plain (f : FuncId) (fn : Func) (hf : Tryd.pinned.checked.prog.funcNamed "brazier/brazierlaw08.CodeMore" = some f) (hfn : Tryd.pinned.checked.prog.funcs[f]? = some fn) :
    false = Tryd.pinned.checked.prog.looks [] ∧ ∀ (j : Nat) t, fn.params[j]? = some t → Tryd.pinned.checked.prog.wantsStandIn t = false := by
  obtain rfl : f = 6 := Option.some.inj ((show Tryd.prog.funcNamed "brazier/brazierlaw08.CodeMore" = some 6 by kernel_rfl).symm.trans hf) |>.symm
  obtain rfl : fn = Tryd.f6 := (Option.some.inj (Tryd.func6.symm.trans hfn)).symm
  refine ⟨by kernel_rfl, fun j t ht => ?_⟩
  rw [Tryd.params6] at ht
  have hm : t = 24 ∨ t = 43 := by simpa using Array.mem_of_getElem? ht
  rcases hm with rfl | rfl
  · exact (show Tryd.prog.wantsStandIn 24 = false by kernel_rfl)
  · exact (show Tryd.prog.wantsStandIn 43 = false by kernel_rfl)
theorem proved : Rows.CodeMoreCardSaid :=
  Claim7.holds_tied_plain_at .later [] _ _ _ _ over (fun _ h => by cases h) (by kernel_rfl) (fun _ h => by cases h) codeMore_row_tie rfl ⟨rfl, rfl⟩ (by kernel_rfl) rfl plain (by kernel_rfl)
#print axioms proved
end Go.Proofs.YteagkdmefmpokaaDoor.codeMore
namespace Go.Proofs.YteagkdmefmpokaaDoor
theorem codeMore_holds : Rows.CodeMoreCardSaid := codeMore.proved
end Go.Proofs.YteagkdmefmpokaaDoor
