/- Code: programs as they are read; the makers of functions. -/
import Derived.Test.YteagkdmefmpokaaDoorEg
namespace Go.Proofs.YteagkdmefmpokaaDoor
open Go.RowKit Go
set_option linter.unusedVariables false
set_option linter.unusedSimpArgs false
def hdf (h : Hd) : List Value := [.string h.nm, .int .i64 h.pa, .int .i64 h.re, .bool h.ge, .slice h.Ac h.nc h.cc, .slice h.Ak h.nk h.ck, .slice h.Ap h.np h.cp, .slice h.Ah h.nh h.ch]
def hf : List Fn → List Value
  | [] => []
  | F :: L => .string F.hd.nm :: .int .i64 F.hd.pa :: .int .i64 F.hd.re :: .bool F.hd.ge :: .slice F.hd.Ac F.hd.nc F.hd.cc :: .slice F.hd.Ak F.hd.nk F.hd.ck :: .slice F.hd.Ap F.hd.np F.hd.cp :: .slice F.hd.Ah F.hd.nh F.hd.ch :: hf L
theorem hf_length (L : List Fn) : (hf L).length = L.length * 8 := by
  induction L with
  | nil => rfl
  | cons x L ih => simp only [hf, List.length_cons, ih]; omega
theorem hf_append (L M : List Fn) : hf (L ++ M) = hf L ++ hf M := by
  induction L with
  | nil => rfl
  | cons x L ih => simp only [List.cons_append, hf, ih]
theorem hf_one (L : List Fn) : ∀ u ∈ hf L, u.oneCell' = true := by
  induction L with
  | nil => intro u h; cases h
  | cons x L ih =>
    intro u h
    simp only [hf, List.mem_cons] at h
    rcases h with rfl | rfl | rfl | rfl | rfl | rfl | rfl | rfl | h
    · rfl
    · rfl
    · rfl
    · rfl
    · rfl
    · rfl
    · rfl
    · rfl
    · exact ih u h
theorem hf_get {L : List Fn} {i : Nat} {F : Fn} (h : L[i]? = some F) : ∀ j v, (hdf F.hd)[j]? = some v → (hf L)[i * 8 + j]? = some v := by
  induction L generalizing i with
  | nil => simp at h
  | cons x L ih =>
    intro j v hj
    cases i with
    | zero =>
      simp at h
      subst h
      have hl : j < 8 := (List.getElem?_eq_some_iff.1 hj).1
      rw [Nat.zero_mul, Nat.zero_add]
      show (hdf x.hd ++ hf L)[j]? = some v
      rw [List.getElem?_append_left (by exact hl)]; exact hj
    | succ i =>
      show (hdf x.hd ++ hf L)[(i + 1) * 8 + j]? = some v
      rw [List.getElem?_append_right (by show 8 ≤ _; omega)]
      rw [show (i + 1) * 8 + j - (hdf x.hd).length = i * 8 + j by show _ - 8 = _; omega]
      exact ih (by simpa using h) j v hj
/-- a function of a slice, as it is read. -/
structure At8 (w : World) (b off i : Nat) (h : Hd) : Prop where
  c0 : w.cell? ⟨b, off + i * 8, none⟩ = some (.string h.nm)
  c1 : w.cell? ⟨b, off + i * 8 + 1, none⟩ = some (.int .i64 h.pa)
  c2 : w.cell? ⟨b, off + i * 8 + 2, none⟩ = some (.int .i64 h.re)
  c3 : w.cell? ⟨b, off + i * 8 + 3, none⟩ = some (.bool h.ge)
  c4 : w.cell? ⟨b, off + i * 8 + 4, none⟩ = some (.slice h.Ac h.nc h.cc)
  c5 : w.cell? ⟨b, off + i * 8 + 5, none⟩ = some (.slice h.Ak h.nk h.ck)
  c6 : w.cell? ⟨b, off + i * 8 + 6, none⟩ = some (.slice h.Ap h.np h.cp)
  c7 : w.cell? ⟨b, off + i * 8 + 7, none⟩ = some (.slice h.Ah h.nh h.ch)
theorem reads_at8 {w : World} {B n : Nat} {A : Option Addr} {L : List Fn} (h : Reads w B 8 A n (hf L)) {i : Nat} {F : Fn} (hi : L[i]? = some F) : ∃ b off, A = some ⟨b, off, none⟩ ∧ b < B ∧ At8 w b off i F.hd := by
  have hl := h.1
  rw [hf_length] at hl
  have hlt : i < L.length := (List.getElem?_eq_some_iff.1 hi).1
  obtain ⟨ad, rfl, hb, hc⟩ := h.2 (by omega)
  have g := hf_get hi
  obtain ⟨b, off, sp⟩ := ad
  have h0 : 0 < (hf L).length := by rw [hf_length]; omega
  have hsp : sp = none := by simpa [Addr.add] using World.cell?_spot (hc 0 _ (List.getElem?_eq_getElem h0))
  subst hsp
  have k : ∀ j v, (hdf F.hd)[j]? = some v → w.cell? ⟨b, off + i * 8 + j, none⟩ = some v := fun j v hj => by rw [Nat.add_assoc]; exact add_at b off _ w (hc _ _ (g j v hj))
  exact ⟨b, off, rfl, hb, k 0 _ rfl, k 1 _ rfl, k 2 _ rfl, k 3 _ rfl, k 4 _ rfl, k 5 _ rfl, k 6 _ rfl, k 7 _ rfl⟩
theorem reads_len8 {w : World} {B n : Nat} {A : Option Addr} {L : List Fn} (h : Reads w B 8 A n (hf L)) : L.length = n := by
  have hl := h.1
  rw [hf_length] at hl
  omega
/-- the operands are numbers of 64 bits. -/
def Fn.W (F : Fn) : Prop := ∀ e ∈ F.C, e.h ≤ 9223372036854775807 ∧ e.o ≤ 9223372036854775807 ∧ e.c ≤ 9223372036854775807
/-- a program, as it is read. -/
structure PIs (w : World) (A : Option Addr) (n : Nat) (Fs : List Fn) : Prop where
  rd : Reads w w.heap.size 8 A n (hf Fs)
  is : ∀ F ∈ Fs, F.Is w
  fw : ∀ F ∈ Fs, F.W
  n : n ≤ 140737488351232
theorem PIs.later {w w' : World} {A : Option Addr} {n : Nat} {Fs : List Fn} (h : PIs w A n Fs) (b : Below w.heap.size w w') : PIs w' A n Fs :=
  ⟨(h.rd.below b).more b.size, fun F hF => (h.is F hF).later b, h.fw, h.n⟩
/-- does a maker have what the functions that it makes take along? -/
def takesI (Fs : List Fn) (F : Fn) (e : En) : Bool := (e.s != 12) || ((Fs[e.o.toNat]?).map fun G => G.P.all (okP F.hd.re F.hd.np)).getD true
def takesF (Fs : List Fn) (F : Fn) : Bool := F.C.all (takesI Fs F)
def takesB (Fs : List Fn) : Bool := Fs.all (takesF Fs)
theorem all_dropF {p : Fn → Bool} {C : List Fn} {k : Nat} {e : Fn} (hx : C[k]? = some e) : (C.drop k).all p = (p e && (C.drop (k + 1)).all p) := by rw [drop_at hx, List.all_cons]
abbrev box1 (w : World) (A : Option Addr) (n c : Nat) : World := w.alloc (.cells #[.slice A n c] 24)
theorem box1_cell {w wr : World} {A : Option Addr} {n c : Nat} (b : Below (box1 w A n c).heap.size (box1 w A n c) wr) : wr.cell? ⟨w.heap.size, 0, none⟩ = some (.slice A n c) ∧ w.heap.size < wr.heap.size := by
  have B := Blk.new w 24 #[.slice A n c]
  exact ⟨((B.below b B.lt).cell 0).trans rfl, (B.below b B.lt).lt⟩
theorem bool_not_true {b : Bool} (h : ¬ b = true) : b = false := by simpa using h
theorem takesI_at {Fs : List Fn} {F G : Fn} {e : En} {k : Nat} (hy : (e.s != 12) = false) (hk : e.o = k) (hG : Fs[k]? = some G) : takesI Fs F e = G.P.all (okP F.hd.re F.hd.np) := by
  unfold takesI; rw [hy, hk]; simp [hG]
set_option maxRecDepth 100000 in
set_option maxHeartbeats 16000000 in
theorem takes_calls (w : World) (A : Option Addr) (n c : Nat) (Fs : List Fn) (hP : PIs w A n Fs) (hin : ∀ F ∈ Fs, ∀ e ∈ F.C, e.s = 12 → 0 ≤ e.o ∧ e.o < n) :
    Calls Tryd.prog 21 #[pv A n c] w fun r w' => r = .returned (.bool (takesB Fs)) ∧ Below w.heap.size w w' := by
  have HB := Lib.hid (below_new w (.cells #[.slice A n c] 24))
  have HP := Lib.hid (fun (W : World) (b : Below (box1 w A n c).heap.size (box1 w A n c) W) => (hP.later (below_new w (.cells #[.slice A n c] 24))).later b)
  have HC := Lib.hid (fun (W : World) (b : Below (box1 w A n c).heap.size (box1 w A n c) W) => box1_cell b)
  have hl := Lib.hid (reads_len8 hP.rd)
  have hn := hP.n
  have HIN := Lib.hid hin
  have B0 := Lib.hid (Below.refl (box1 w A n c).heap.size (box1 w A n c))
  have hmf : ∀ (fn : _root_.Go.Fn) (first cap : Array Value) (w : World), (Instr.makeFunc fn first cap).run Tryd.prog w = .ok (.func fn first cap) w := fun _ _ _ _ => rfl
  unfold pv
  clear hP hin
  go_enter Tryd.func21, Tryd.ntmps21
  go_wp2_with fail
  go_loopg [11] n (fun f i wr => ∃ k : Nat, i = .int .i64 k ∧ k + f = n ∧ takesB Fs = (Fs.drop k).all (takesF Fs) ∧ Below (box1 w A n c).heap.size (box1 w A n c) wr)
  case atStart => exact ⟨0, rfl, by omega, rfl, B0.out⟩
  case round =>
    obtain ⟨k, rfl, hf, he, hB⟩ := hrel
    have HE := Lib.hid he
    have HBR := Lib.hid hB
    have HFF := Lib.hid hf
    by_cases hk : k < n
    · obtain ⟨F, hx⟩ : ∃ F, Fs[k]? = some F := ⟨_, List.getElem?_eq_getElem (by have := hl.out; omega)⟩
      obtain ⟨b, off, hA, hbl, ⟨c0, c1, c2, c3, c4, c5, c6, c7⟩⟩ := reads_at8 (HP.out wr hB).rd hx
      have hmem := List.mem_of_getElem? hx
      have hall := Lib.hid (he.trans (all_dropF hx))
      have hk' : (k : Int) < n := by omega
      obtain ⟨f', hf'⟩ : ∃ f', gk = f' + 1 := ⟨gk - 1, by omega⟩
      have HF' := Lib.hid hf'
      have HA := Lib.hid hA
      have HAF := Lib.hid (below_new wr (.cells F.hd.b 36))
      have HM := Lib.hid hmem
      have hlc := Lib.hid (reads_len ((HP.out wr hB).is F hmem).his.code)
      have hnc := ((HP.out wr hB).is F hmem).his.nc
      have BF := Lib.hid (fun (W : World) (bb : Below (F.hd.box wr).heap.size (F.hd.box wr) W) => F.hd.all bb)
      have BL := Lib.hid (Below.refl (F.hd.box wr).heap.size (F.hd.box wr))
      have c4' := (F.hd.cells (Below.refl _ (F.hd.box wr))).1
      unfold Hd.box Hd.b at c4'
      obtain ⟨Ac, hAc⟩ : ∃ A, F.hd.Ac = A := ⟨_, rfl⟩
      have HAc := Lib.hid hAc
      rw [hAc] at c4 c4'
      subst hA
      clear hx hf hf' he hB hmem hAc
      go_wp2_with fail
      go_loopg [18] F.hd.nc (fun f i wr2 => ∃ j : Nat, i = .int .i64 j ∧ j + f = F.hd.nc ∧ takesF Fs F = (F.C.drop j).all (takesI Fs F) ∧ Below (F.hd.box wr).heap.size (F.hd.box wr) wr2)
      case atStart => exact ⟨0, rfl, by omega, rfl, by have := BL.out; unfold Hd.box Hd.b at this ⊢; rw [HAc.out] at this ⊢; exact this⟩
      case round =>
        clear c4' c0 c1 c2 c3 c4 c5 c6 c7
        obtain ⟨j, rfl, hf, he, hB⟩ := hrel
        rename World => wr2
        have HE2 := Lib.hid he
        have HBR2 := Lib.hid hB
        have HFF2 := Lib.hid hf
        have hbw := Lib.hid (below_via HBR.out (below_via HAF.out hB))
        by_cases hj : j < F.hd.nc
        · obtain ⟨⟨es, eh, eo, ec⟩, hx⟩ : ∃ e, F.C[j]? = some e := ⟨_, List.getElem?_eq_getElem (by have := hlc.out; omega)⟩
          obtain ⟨b2, off2, hA2, hbl2, ⟨d0, d1, d2, d3⟩⟩ := reads_at ((HP.out wr2 hbw.out).is F HM.out).his.code hx
          rw [HAc.out] at hA2
          subst hA2
          simp only at d0 d1 d2 d3
          have hall2 := he.trans (all_drop hx)
          have hj' : (j : Int) < F.hd.nc := by omega
          obtain ⟨f2, hf2⟩ : ∃ f2, gk = f2 + 1 := ⟨gk - 1, by omega⟩
          have HF2 := Lib.hid hf2
          have hin2 := HIN.out F HM.out _ (List.mem_of_getElem? hx)
          simp only at hin2
          by_cases h12 : es = 12
          · subst h12
            obtain ⟨o0, o1⟩ := hin2 rfl
            obtain ⟨q, rfl⟩ : ∃ q : Nat, eo = q := ⟨eo.toNat, by omega⟩
            obtain ⟨G, hG⟩ : ∃ G, Fs[q]? = some G := ⟨_, List.getElem?_eq_getElem (by have := hl.out; omega)⟩
            rw [takesI_at (F := F) rfl rfl hG, all_any] at hall2
            have hall3 := Lib.hid hall2
            have HAL := Lib.hid (below_new wr2 (.cells #[.int .i64 12, .int .i64 eh, .int .i64 q, .int .i64 ec] 38))
            have hbw2 := below_via hbw.out HAL.out
            have hpis := HP.out _ hbw2
            obtain ⟨bq, offq, hAq, _, ⟨_, _, _, _, _, _, g6, _⟩⟩ := reads_at8 hpis.rd hG
            cases hAq
            have p0 := (HC.out _ hbw2).1
            have KP := Lib.hid (pcontains_calls (wr2.alloc (.cells #[.int .i64 12, .int .i64 eh, .int .i64 q, .int .i64 ec] 38)) wr.heap.size (fun t => !okP F.hd.re F.hd.np t) (fun W t bb => pbad_calls W wr.heap.size F.hd (BF.out W (below_via HBR2.out (below_via HAL.out bb))) t) G.hd.Ap G.hd.np G.hd.cp G.P (hpis.is G (List.mem_of_getElem? hG)).cap (hpis.is G (List.mem_of_getElem? hG)).np)
            have o1' : (q : Int) < n := by omega
            generalize (G.P.any fun t => !okP F.hd.re F.hd.np t) = z at *
            have KP' := Lib.hid KP.out
            clear hx hf hf2 he hB hall2 hG hin2 hpis hbw2 KP
            cases z
            · go_wp2_with (go_at_call 33; (with_reducible refine KP'.out.mono ?_); rintro r w1 ⟨rfl, hb1⟩)
              go_roundg f2
              case measure => have := HF2.out; omega
              case rel => exact ⟨j + 1, by simp, by have := HF2.out; have := HFF2.out; omega, by rw [hall3.out]; rfl, below_via HBR2.out (below_via HAL.out hb1)⟩
            · go_wp2_with (go_at_call 33; (with_reducible refine KP'.out.mono ?_); rintro r w1 ⟨rfl, hb1⟩)
              go_ret
              exact ⟨ret_bool (by rw [hall.out, hall3.out]; rfl), below_via HB.out (below_via hbw.out (below_via HAL.out hb1))⟩
          · have HAL := Lib.hid (below_new wr2 (.cells #[.int .i64 es, .int .i64 eh, .int .i64 eo, .int .i64 ec] 38))
            have hti : takesI Fs F ⟨es, eh, eo, ec⟩ = true := by unfold takesI; simp [h12]
            rw [hti] at hall2
            have hall3 := Lib.hid hall2
            have hy : (es != 12) = true := by simpa using h12
            clear hx hf hf2 he hB hti hall2 h12 hin2
            go_wp2_with fail
            go_roundg f2
            case measure => have := HF2.out; omega
            case rel => exact ⟨j + 1, by simp, by have := HF2.out; have := HFF2.out; omega, by rw [hall3.out]; rfl, below_via HBR2.out HAL.out⟩
        · have hj' : ¬ (j : Int) < F.hd.nc := by omega
          have hfin : takesF Fs F = true := by rw [he, List.drop_of_length_le (by have := hlc.out; omega)]; rfl
          have HFIN := Lib.hid hfin
          clear hf he hB hfin
          go_wp2_with fail
          go_roundg f'
          case measure => have := HF'.out; omega
          case rel => exact ⟨k + 1, by simp, by have := HF'.out; have := HFF.out; omega, by rw [hall.out, HFIN.out]; rfl, hbw.out⟩
    · have hk' : ¬ (k : Int) < n := by omega
      clear hf hB he
      go_wp2_with fail
      go_ret
      exact ⟨ret_bool (by rw [HE.out, List.drop_of_length_le (by have := hl.out; omega)]; rfl), below_via HB.out HBR.out⟩
end Go.Proofs.YteagkdmefmpokaaDoor
