/- For every script of bulk at most 1048576 the call of CellsAll returns true, and its argument reads as before. -/
import Derived.Test.YtoicddafonpjhaaKp
namespace Go.Proofs.Ytoicddafonpjhaa.cellsAll
open Go.ChangeShapes Go.WideShapes Go.ChangeAt Go.RowKit Go.Deep Go
set_option linter.unusedSimpArgs false
set_option linter.unusedVariables false
set_option maxRecDepth 100000 in
set_option maxHeartbeats 4000000 in
theorem walkS (w : World) (b off n cap : Nat) (K N : Nat → Int) (hs : Script w b off n cap K N) (hn : n ≤ 349525) :
    Calls Try.prog 3 #[.slice (some ⟨b, off, none⟩) n cap] w fun e w' => e = .returned (.bool true) ∧ Below w.heap.size w w' := by
  have NW := Lib.hid (New_calls w w.heap.size (Nat.le_refl _))
  have AL := Lib.hid alive12
  have hcap := hs.cap
  have HS := Lib.hid hs
  clear hs
  go_enter Try.func3, Try.ntmps3
  go_wp2_with (first | (go_at_call 7; refine NW.out.mono ?_; rintro e wa ⟨bc, rfl, hr1, hb1⟩) | (go_at_call 8; refine (AL.out _).mono ?_; rintro e wb ⟨rfl, hb2⟩))
  have K0 := Lib.hid (sitl_start (has_keep hr1 hb2) (via12 hb1 hb2))
  clear hr1 hb1 hb2
  go_loopg [4, 20] n (fun f rv i wr => ∃ (k : Nat) (l : List Cl) (on : List Int) (R : List Rc) (rv0 : Value), i = .int .i64 k ∧ rv0 = rv ∧ k + f = n ∧ l.length ≤ k ∧ SitL w wr (.pointer (some ⟨bc, 0, none⟩)) rv0 l on R)
  case atStart => exact ⟨0, [], [], [], _, rfl, rfl, by omega, Nat.le_refl _, K0.out⟩
  case round =>
    obtain ⟨k, l, on, R, rv, rfl, hrv, hf, hlk, S⟩ := hrel
    subst hrv
    by_cases hk : k < n
    · have hk' : (k : Int) < n := by omega
      obtain ⟨c0, c1⟩ := HS.out.at0 S.bel k hk
      obtain ⟨f', hf'⟩ : ∃ f', gk = f' + 1 := ⟨gk - 1, by omega⟩
      have HF' := Lib.hid hf'
      obtain ⟨nn, hnn⟩ : ∃ nn, N k = nn := ⟨_, rfl⟩
      obtain ⟨kk, hkk⟩ : ∃ kk, K k = kk := ⟨_, rfl⟩
      rw [hnn] at c1
      rw [hkk] at c0
      have hrl := S.ali.len
      have S0 := Lib.hid (sit_open S kk nn)
      have htot := S.ali.st.tot
      have SL := Lib.hid S
      have HLK := Lib.hid hlk
      clear hnn hkk hf'
      obtain ⟨m, hm⟩ : ∃ m, R.length = m := ⟨_, rfl⟩
      by_cases k0 : kk = 0
      · subst k0
        have A1 := alike_mk S.ali nn
        have MK := Lib.hid (sit_make S0.out nn (by omega) htot)
        have RM := Lib.hid (fun w1 (h : Sit w w1 (.pointer (some ⟨bc, 0, none⟩)) rv wr.heap.size 0 nn (mk l nn) R) => sit_rmake h nn (by omega))
        have HR' := Lib.hid (show (rmk R nn) ≠ [] by unfold rmk; simp)
        have VV := fun w1 rv' (h : Sit w w1 (.pointer (some ⟨bc, 0, none⟩)) rv' wr.heap.size 0 nn (mk l nn) (rmk R nn)) => HValidS w1 w.heap.size _ (mk l nn) nn h.has
        have CC := fun w1 rv' (h : Sit w w1 (.pointer (some ⟨bc, 0, none⟩)) rv' wr.heap.size 0 nn (mk l nn) (rmk R nn)) => HCountS w1 w.heap.size _ (mk l nn) h.has
        have hl' : (mk l nn).length = m + 1 := by rw [mk_len]; omega
        have HVL := Lib.hid (A1.vl nn)
        have HRL := Lib.hid (A1.len.trans hl')
        have HA1 := Lib.hid A1
        have VN := Lib.hid (show (nn < 0 ∨ ((m + 1 : Nat) : Int) ≤ nn) → vld (mk l nn) nn = false from fun h => by
          by_cases h0 : 0 ≤ nn
          · obtain ⟨i, hi⟩ := Int.eq_ofNat_of_zero_le h0
            subst hi
            exact vld_out (by omega)
          · exact vld_neg (by omega))
        have HL' := Lib.hid (show (mk l nn).length ≤ k + 1 by omega)
        rw [hl'] at CC
        replace CC := Lib.hid CC
        have hlm : l.length = m := by omega
        rw [hlm] at MK
        rw [hm] at RM
        have hmb : m ≤ 349525 := by omega
        clear S htot hrl hl' hm hlm hlk A1
        obtain ⟨u, hu⟩ : ∃ u, vld (mk l nn) nn = u := ⟨_, rfl⟩
        rw [hu] at VV HVL VN
        generalize (mk l nn) = l' at *
        generalize (rmk R nn) = R' at *
        clear hu
        by_cases h0 : 0 ≤ nn
        · by_cases h1 : nn < (m + 1 : Nat)
          · obtain ⟨i, rfl⟩ := Int.eq_ofNat_of_zero_le h0
            have h2 : i < m + 1 := by omega
            replace VV := Lib.hid VV
            go_wp2_with (first | (go_at_call 9; refine MK.out.mono ?_; rintro e w1 ⟨rfl, S1⟩; have p0 := S1.o0; have p1 := S1.o1; replace S1 := Lib.hid S1) | (go_at_call 10; refine (RM.out _ S1.out).mono ?_; rintro e w2 ⟨g2, cap2, rfl, hcap2, S2, hrd⟩; have p2 := S2.o0; have p3 := S2.o1; replace S2 := Lib.hid S2; have rd := hrd i h2; rw [HVL.out] at rd; clear hrd) | (go_at_call 13; refine (VV.out _ _ S2.out).mono ?_; rintro e w' ⟨rfl, rfl⟩) | (go_at_call 14; refine (CC.out _ _ S2.out).mono ?_; rintro e w' ⟨rfl, rfl⟩))
            go_roundg f'
            case measure => have := HF'.out; omega
            case rel => exact ⟨k + 1, l', _, R', _, by simp, rfl, by have := HF'.out; omega, HL'.out, sit_close S2.out HA1.out (fun c => absurd c HR'.out)⟩
          · have hv := VN.out (.inr (by omega))
            rw [hv] at VV
            replace VV := Lib.hid VV
            clear hv
            go_wp2_with (first | (go_at_call 9; refine MK.out.mono ?_; rintro e w1 ⟨rfl, S1⟩; have p0 := S1.o0; have p1 := S1.o1; replace S1 := Lib.hid S1) | (go_at_call 10; refine (RM.out _ S1.out).mono ?_; rintro e w2 ⟨g2, cap2, rfl, hcap2, S2, hrd⟩; have p2 := S2.o0; have p3 := S2.o1; replace S2 := Lib.hid S2; clear hrd) | (go_at_call 13; refine (VV.out _ _ S2.out).mono ?_; rintro e w' ⟨rfl, rfl⟩) | (go_at_call 14; refine (CC.out _ _ S2.out).mono ?_; rintro e w' ⟨rfl, rfl⟩))
            go_roundg f'
            case measure => have := HF'.out; omega
            case rel => exact ⟨k + 1, l', _, R', _, by simp, rfl, by have := HF'.out; omega, HL'.out, sit_close S2.out HA1.out (fun c => absurd c HR'.out)⟩
        · have hv := VN.out (.inl (by omega))
          rw [hv] at VV
          replace VV := Lib.hid VV
          clear hv
          go_wp2_with (first | (go_at_call 9; refine MK.out.mono ?_; rintro e w1 ⟨rfl, S1⟩; have p0 := S1.o0; have p1 := S1.o1; replace S1 := Lib.hid S1) | (go_at_call 10; refine (RM.out _ S1.out).mono ?_; rintro e w2 ⟨g2, cap2, rfl, hcap2, S2, hrd⟩; have p2 := S2.o0; have p3 := S2.o1; replace S2 := Lib.hid S2; clear hrd) | (go_at_call 13; refine (VV.out _ _ S2.out).mono ?_; rintro e w' ⟨rfl, rfl⟩) | (go_at_call 14; refine (CC.out _ _ S2.out).mono ?_; rintro e w' ⟨rfl, rfl⟩))
          go_roundg f'
          case measure => have := HF'.out; omega
          case rel => exact ⟨k + 1, l', _, R', _, by simp, rfl, by have := HF'.out; omega, HL'.out, sit_close S2.out HA1.out (fun c => absurd c HR'.out)⟩
      · by_cases k1 : kk = 1
        · subst k1
          obtain ⟨A1, hcnt⟩ := alike_brk S.ali nn
          have hll := rbrk_len R nn
          by_cases hR : R = []
          · subst hR
            have hrv := S.nz rfl
            subst hrv
            have e0 : rbrk [] nn = ([], 0) := by unfold rbrk; rw [if_neg]; unfold rvl; simp
            rw [e0] at A1 hcnt
            have hm0 : m = 0 := by simpa using hm.symm
            subst hm0
            have RB := Lib.hid (sit_rbreak0 S0.out nn)
            have BR := fun w1 rv' (h : Sit w w1 (.pointer (some ⟨bc, 0, none⟩)) rv' wr.heap.size 1 nn l []) => sit_break h nn (by omega) htot
            rw [← hcnt] at BR
            replace BR := Lib.hid BR
            have VV := fun w1 rv' (h : Sit w w1 (.pointer (some ⟨bc, 0, none⟩)) rv' wr.heap.size 1 nn (brk (1 + load l) l [nn] 0).1 []) => HValidS w1 w.heap.size _ (brk (1 + load l) l [nn] 0).1 nn h.has
            have CC := fun w1 rv' (h : Sit w w1 (.pointer (some ⟨bc, 0, none⟩)) rv' wr.heap.size 1 nn (brk (1 + load l) l [nn] 0).1 []) => HCountS w1 w.heap.size _ (brk (1 + load l) l [nn] 0).1 h.has
            have hl' : (brk (1 + load l) l [nn] 0).1.length = 0 := by have := A1.len; simp at this; omega
            have HVL := Lib.hid (A1.vl nn)
            have HRL := Lib.hid (A1.len.trans hl')
            have HA1 := Lib.hid A1
            have VN := Lib.hid (show (nn < 0 ∨ ((0 : Nat) : Int) ≤ nn) → vld (brk (1 + load l) l [nn] 0).1 nn = false from fun h => by
              by_cases h0 : 0 ≤ nn
              · obtain ⟨i, hi⟩ := Int.eq_ofNat_of_zero_le h0
                subst hi
                exact vld_out (by omega)
              · exact vld_neg (by omega))
            have HL' := Lib.hid (show (brk (1 + load l) l [nn] 0).1.length ≤ k + 1 by omega)
            rw [hl'] at CC
            replace CC := Lib.hid CC
            clear S htot hrl hl' hm hlk A1 hcnt hll
            obtain ⟨u, hu⟩ : ∃ u, vld (brk (1 + load l) l [nn] 0).1 nn = u := ⟨_, rfl⟩
            rw [hu] at VV HVL VN
            generalize (brk (1 + load l) l [nn] 0).1 = l' at *
            clear hu
            have hv := VN.out (by omega)
            rw [hv] at VV
            replace VV := Lib.hid VV
            clear hv
            by_cases h0 : 0 ≤ nn
            · go_wp2_with (first | (go_at_call 11; refine RB.out.mono ?_; rintro e w1 ⟨rfl, S1⟩; have p0 := S1.o0; have p1 := S1.o1; replace S1 := Lib.hid S1) | (go_at_call 12; refine (BR.out _ _ S1.out).mono ?_; rintro e w2 ⟨rfl, S2⟩; have p2 := S2.o0; have p3 := S2.o1; replace S2 := Lib.hid S2) | (go_at_call 13; refine (VV.out _ _ S2.out).mono ?_; rintro e w' ⟨rfl, rfl⟩) | (go_at_call 14; refine (CC.out _ _ S2.out).mono ?_; rintro e w' ⟨rfl, rfl⟩))
              go_roundg f'
              case measure => have := HF'.out; omega
              case rel => exact ⟨k + 1, l', _, [], _, by simp, rfl, by have := HF'.out; omega, HL'.out, sit_close S2.out HA1.out (fun _ => rfl)⟩
            · go_wp2_with (first | (go_at_call 11; refine RB.out.mono ?_; rintro e w1 ⟨rfl, S1⟩; have p0 := S1.o0; have p1 := S1.o1; replace S1 := Lib.hid S1) | (go_at_call 12; refine (BR.out _ _ S1.out).mono ?_; rintro e w2 ⟨rfl, S2⟩; have p2 := S2.o0; have p3 := S2.o1; replace S2 := Lib.hid S2) | (go_at_call 13; refine (VV.out _ _ S2.out).mono ?_; rintro e w' ⟨rfl, rfl⟩) | (go_at_call 14; refine (CC.out _ _ S2.out).mono ?_; rintro e w' ⟨rfl, rfl⟩))
              go_roundg f'
              case measure => have := HF'.out; omega
              case rel => exact ⟨k + 1, l', _, [], _, by simp, rfl, by have := HF'.out; omega, HL'.out, sit_close S2.out HA1.out (fun _ => rfl)⟩
          · have RB := Lib.hid (sit_rbreak S0.out nn (by omega) hR)
            have BR := fun w1 rv' (h : Sit w w1 (.pointer (some ⟨bc, 0, none⟩)) rv' wr.heap.size 1 nn l (rbrk R nn).1) => sit_break h nn (by omega) htot
            rw [← hcnt] at BR
            replace BR := Lib.hid BR
            have VV := fun w1 rv' (h : Sit w w1 (.pointer (some ⟨bc, 0, none⟩)) rv' wr.heap.size 1 nn (brk (1 + load l) l [nn] 0).1 (rbrk R nn).1) => HValidS w1 w.heap.size _ (brk (1 + load l) l [nn] 0).1 nn h.has
            have CC := fun w1 rv' (h : Sit w w1 (.pointer (some ⟨bc, 0, none⟩)) rv' wr.heap.size 1 nn (brk (1 + load l) l [nn] 0).1 (rbrk R nn).1) => HCountS w1 w.heap.size _ (brk (1 + load l) l [nn] 0).1 h.has
            have hl' : (brk (1 + load l) l [nn] 0).1.length = m := by have := A1.len; omega
            have HVL := Lib.hid (A1.vl nn)
            have HRL := Lib.hid (A1.len.trans hl')
            have HA1 := Lib.hid A1
            have VN := Lib.hid (show (nn < 0 ∨ ((m : Nat) : Int) ≤ nn) → vld (brk (1 + load l) l [nn] 0).1 nn = false from fun h => by
              by_cases h0 : 0 ≤ nn
              · obtain ⟨i, hi⟩ := Int.eq_ofNat_of_zero_le h0
                subst hi
                exact vld_out (by omega)
              · exact vld_neg (by omega))
            have HL' := Lib.hid (show (brk (1 + load l) l [nn] 0).1.length ≤ k + 1 by omega)
            rw [hl'] at CC
            replace CC := Lib.hid CC
            have HR' := Lib.hid (show (rbrk R nn).1 ≠ [] from fun c => by rw [c] at hll; exact hR (List.eq_nil_of_length_eq_zero hll.symm))
            rw [hm] at RB
            have hmb : m ≤ 349525 := by omega
            clear S htot hrl hl' hm hlk A1 hcnt hll hR
            obtain ⟨q, hq⟩ : ∃ q, (rbrk R nn).2 = q := ⟨_, rfl⟩
            rw [hq] at RB BR
            clear hq
            obtain ⟨u, hu⟩ : ∃ u, vld (brk (1 + load l) l [nn] 0).1 nn = u := ⟨_, rfl⟩
            rw [hu] at VV HVL VN
            generalize (brk (1 + load l) l [nn] 0).1 = l' at *
            generalize (rbrk R nn).1 = R' at *
            clear hu
            by_cases h0 : 0 ≤ nn
            · by_cases h1 : nn < (m : Nat)
              · obtain ⟨i, rfl⟩ := Int.eq_ofNat_of_zero_le h0
                have h2 : i < m := by omega
                replace VV := Lib.hid VV
                go_wp2_with (first | (go_at_call 11; refine RB.out.mono ?_; rintro e w1 ⟨g2, cap2, rfl, hcap2, S1, _⟩; have p0 := S1.o0; have p1 := S1.o1; replace S1 := Lib.hid S1) | (go_at_call 12; refine (BR.out _ _ S1.out).mono ?_; rintro e w2 ⟨rfl, S2⟩; have p2 := S2.o0; have p3 := S2.o1; have rd := sit_read S2 HRL.out i h2; rw [HVL.out] at rd; replace S2 := Lib.hid S2) | (go_at_call 13; refine (VV.out _ _ S2.out).mono ?_; rintro e w' ⟨rfl, rfl⟩) | (go_at_call 14; refine (CC.out _ _ S2.out).mono ?_; rintro e w' ⟨rfl, rfl⟩))
                go_roundg f'
                case measure => have := HF'.out; omega
                case rel => exact ⟨k + 1, l', _, R', _, by simp, rfl, by have := HF'.out; omega, HL'.out, sit_close S2.out HA1.out (fun c => absurd c HR'.out)⟩
              · have hv := VN.out (.inr (by omega))
                rw [hv] at VV
                replace VV := Lib.hid VV
                clear hv
                go_wp2_with (first | (go_at_call 11; refine RB.out.mono ?_; rintro e w1 ⟨g2, cap2, rfl, hcap2, S1, _⟩; have p0 := S1.o0; have p1 := S1.o1; replace S1 := Lib.hid S1) | (go_at_call 12; refine (BR.out _ _ S1.out).mono ?_; rintro e w2 ⟨rfl, S2⟩; have p2 := S2.o0; have p3 := S2.o1; replace S2 := Lib.hid S2) | (go_at_call 13; refine (VV.out _ _ S2.out).mono ?_; rintro e w' ⟨rfl, rfl⟩) | (go_at_call 14; refine (CC.out _ _ S2.out).mono ?_; rintro e w' ⟨rfl, rfl⟩))
                go_roundg f'
                case measure => have := HF'.out; omega
                case rel => exact ⟨k + 1, l', _, R', _, by simp, rfl, by have := HF'.out; omega, HL'.out, sit_close S2.out HA1.out (fun c => absurd c HR'.out)⟩
            · have hv := VN.out (.inl (by omega))
              rw [hv] at VV
              replace VV := Lib.hid VV
              clear hv
              go_wp2_with (first | (go_at_call 11; refine RB.out.mono ?_; rintro e w1 ⟨g2, cap2, rfl, hcap2, S1, _⟩; have p0 := S1.o0; have p1 := S1.o1; replace S1 := Lib.hid S1) | (go_at_call 12; refine (BR.out _ _ S1.out).mono ?_; rintro e w2 ⟨rfl, S2⟩; have p2 := S2.o0; have p3 := S2.o1; replace S2 := Lib.hid S2) | (go_at_call 13; refine (VV.out _ _ S2.out).mono ?_; rintro e w' ⟨rfl, rfl⟩) | (go_at_call 14; refine (CC.out _ _ S2.out).mono ?_; rintro e w' ⟨rfl, rfl⟩))
              go_roundg f'
              case measure => have := HF'.out; omega
              case rel => exact ⟨k + 1, l', _, R', _, by simp, rfl, by have := HF'.out; omega, HL'.out, sit_close S2.out HA1.out (fun c => absurd c HR'.out)⟩
        · by_cases hR : R = []
          · subst hR
            have hrv := S.nz rfl
            subst hrv
            have A1 := S.ali
            have hm0 : m = 0 := by simpa using hm.symm
            subst hm0
            have VV := fun w1 rv' (h : Sit w w1 (.pointer (some ⟨bc, 0, none⟩)) rv' wr.heap.size kk nn l []) => HValidS w1 w.heap.size _ l nn h.has
            have CC := fun w1 rv' (h : Sit w w1 (.pointer (some ⟨bc, 0, none⟩)) rv' wr.heap.size kk nn l []) => HCountS w1 w.heap.size _ l h.has
            have hl' : l.length = 0 := by have := A1.len; simp at this; omega
            have HVL := Lib.hid (A1.vl nn)
            have HRL := Lib.hid (A1.len.trans hl')
            have HA1 := Lib.hid A1
            have VN := Lib.hid (show (nn < 0 ∨ ((0 : Nat) : Int) ≤ nn) → vld l nn = false from fun h => by
              by_cases h0 : 0 ≤ nn
              · obtain ⟨i, hi⟩ := Int.eq_ofNat_of_zero_le h0
                subst hi
                exact vld_out (by omega)
              · exact vld_neg (by omega))
            have HL' := Lib.hid (show l.length ≤ k + 1 by omega)
            rw [hl'] at CC
            replace CC := Lib.hid CC
            clear S htot hrl hl' hm hlk A1
            have hv := VN.out (by omega)
            rw [hv] at VV
            replace VV := Lib.hid VV
            clear hv
            by_cases h0 : 0 ≤ nn
            · go_wp2_with (first | (go_at_call 13; refine (VV.out _ _ S0.out).mono ?_; rintro e w' ⟨rfl, rfl⟩) | (go_at_call 14; refine (CC.out _ _ S0.out).mono ?_; rintro e w' ⟨rfl, rfl⟩))
              go_roundg f'
              case measure => have := HF'.out; omega
              case rel => exact ⟨k + 1, l, _, [], _, by simp, rfl, by have := HF'.out; omega, HL'.out, sit_close S0.out HA1.out (fun _ => rfl)⟩
            · go_wp2_with (first | (go_at_call 13; refine (VV.out _ _ S0.out).mono ?_; rintro e w' ⟨rfl, rfl⟩) | (go_at_call 14; refine (CC.out _ _ S0.out).mono ?_; rintro e w' ⟨rfl, rfl⟩))
              go_roundg f'
              case measure => have := HF'.out; omega
              case rel => exact ⟨k + 1, l, _, [], _, by simp, rfl, by have := HF'.out; omega, HL'.out, sit_close S0.out HA1.out (fun _ => rfl)⟩
          · have A1 := S.ali
            have VV := fun w1 rv' (h : Sit w w1 (.pointer (some ⟨bc, 0, none⟩)) rv' wr.heap.size kk nn l R) => HValidS w1 w.heap.size _ l nn h.has
            have CC := fun w1 rv' (h : Sit w w1 (.pointer (some ⟨bc, 0, none⟩)) rv' wr.heap.size kk nn l R) => HCountS w1 w.heap.size _ l h.has
            have hl' : l.length = m := by omega
            have HVL := Lib.hid (A1.vl nn)
            have HRL := Lib.hid (A1.len.trans hl')
            have HA1 := Lib.hid A1
            have VN := Lib.hid (show (nn < 0 ∨ ((m : Nat) : Int) ≤ nn) → vld l nn = false from fun h => by
              by_cases h0 : 0 ≤ nn
              · obtain ⟨i, hi⟩ := Int.eq_ofNat_of_zero_le h0
                subst hi
                exact vld_out (by omega)
              · exact vld_neg (by omega))
            have HL' := Lib.hid (show l.length ≤ k + 1 by omega)
            rw [hl'] at CC
            replace CC := Lib.hid CC
            obtain ⟨g2, cap2, hrv2, hcap2, _⟩ := row_read S0.out.row hR
            rw [hm] at hrv2 hcap2
            clear SL
            have nzz := S.nz
            clear nzz
            subst hrv2
            have SRD := Lib.hid (sit_read S0.out hm)
            have HR' := Lib.hid hR
            have hmb : m ≤ 349525 := by omega
            clear S htot hrl hl' hm hlk A1 hR
            obtain ⟨u, hu⟩ : ∃ u, vld l nn = u := ⟨_, rfl⟩
            rw [hu] at VV HVL VN
            obtain ⟨l', hl2⟩ : ∃ l', l = l' := ⟨_, rfl⟩
            subst hl2
            skip
            clear hu
            by_cases h0 : 0 ≤ nn
            · by_cases h1 : nn < (m : Nat)
              · obtain ⟨i, rfl⟩ := Int.eq_ofNat_of_zero_le h0
                have h2 : i < m := by omega
                replace VV := Lib.hid VV
                have rd := SRD.out i h2
                rw [HVL.out] at rd
                go_wp2_with (first | (go_at_call 13; refine (VV.out _ _ S0.out).mono ?_; rintro e w' ⟨rfl, rfl⟩) | (go_at_call 14; refine (CC.out _ _ S0.out).mono ?_; rintro e w' ⟨rfl, rfl⟩))
                go_roundg f'
                case measure => have := HF'.out; omega
                case rel => exact ⟨k + 1, l, _, R, _, by simp, rfl, by have := HF'.out; omega, HL'.out, sit_close S0.out HA1.out (fun c => absurd c HR'.out)⟩
              · have hv := VN.out (.inr (by omega))
                rw [hv] at VV
                replace VV := Lib.hid VV
                clear hv
                go_wp2_with (first | (go_at_call 13; refine (VV.out _ _ S0.out).mono ?_; rintro e w' ⟨rfl, rfl⟩) | (go_at_call 14; refine (CC.out _ _ S0.out).mono ?_; rintro e w' ⟨rfl, rfl⟩))
                go_roundg f'
                case measure => have := HF'.out; omega
                case rel => exact ⟨k + 1, l, _, R, _, by simp, rfl, by have := HF'.out; omega, HL'.out, sit_close S0.out HA1.out (fun c => absurd c HR'.out)⟩
            · have hv := VN.out (.inl (by omega))
              rw [hv] at VV
              replace VV := Lib.hid VV
              clear hv
              go_wp2_with (first | (go_at_call 13; refine (VV.out _ _ S0.out).mono ?_; rintro e w' ⟨rfl, rfl⟩) | (go_at_call 14; refine (CC.out _ _ S0.out).mono ?_; rintro e w' ⟨rfl, rfl⟩))
              go_roundg f'
              case measure => have := HF'.out; omega
              case rel => exact ⟨k + 1, l, _, R, _, by simp, rfl, by have := HF'.out; omega, HL'.out, sit_close S0.out HA1.out (fun c => absurd c HR'.out)⟩
    · have e : k = n := by omega
      subst e
      have HB := Lib.hid S.bel
      clear S
      go_wp2
      go_ret
      exact ⟨rfl, HB.out⟩
set_option maxRecDepth 100000 in
theorem walk0 (a : Option Addr) (cap : Nat) (w : World) : Calls Try.prog 3 #[.slice a 0 cap] w fun e w' => e = .returned (.bool true) ∧ Below w.heap.size w w' := by
  have NW := Lib.hid (New_calls w w.heap.size (Nat.le_refl _))
  have AL := Lib.hid alive12
  go_enter Try.func3, Try.ntmps3
  go_wp2_with (first | (go_at_call 7; refine NW.out.mono ?_; rintro e wa ⟨bc, rfl, hr1, hb1⟩) | (go_at_call 8; refine (AL.out _).mono ?_; rintro e wb ⟨rfl, hb2⟩))
  have HB := Lib.hid (via12 hb1 hb2)
  clear hr1 hb1 hb2
  go_loopg [20] 0 (fun f i wr => i = .int .i64 0 ∧ wr = wb)
  case atStart => exact ⟨rfl, rfl⟩
  case round =>
    obtain ⟨rfl, rfl⟩ := hrel
    go_wp2
    go_ret
    exact ⟨rfl, HB.out⟩

theorem own : ownKnob Try.prog.godebug = none := by kernel_rfl
/-- what the walk gives. -/
theorem contract (H : Type) (enc : TypeId × Value → H) (W : World) (base : Nat) (args : Array Value) (ds gs : List (DataW H)) (before : List MemPlace)
    (hval : ∀ (j : Nat) t v, Try.f3.params[j]? = some t → args[j]? = some v → Value.okWide Try.prog W .any base t v)
    (hW : DataW.Whole enc Try.prog Try.f3.params.toList Rows.cellsAllSpec.vars false W args.toList ds gs before) (hk : Rows.uptoSmall H (ds ++ gs) = true) :
    Calls Try.prog 3 args W fun e W' => ∃ v, e = .returned v ∧ Rows.cellsAllSpec.post enc Try.prog Try.f3 false true false false W args v W' := by
  have hW' := hW
  obtain ⟨p, q, hA0, hV, rfl, hfz, hnd⟩ := hW
  have hA : DataW.TrodAll enc Try.prog W 0 (fun _ => true) true Try.f3.params.toList args.toList ds p := hA0
  rw [Try.params3] at hA hval
  obtain ⟨v0, vs0, d0, ds0, p0, q0, hargs, rfl, rfl, h0, r0⟩ := trodAll_cons hA
  obtain ⟨rfl, rfl, rfl⟩ := trodAll_nil r0
  obtain rfl : args = #[v0] := by cases args; simp_all
  obtain ⟨rfl, rfl⟩ := trodVars_none hV
  clear hA0
  simp only [List.append_nil] at hW' hk
  have hlt : ∀ x ∈ p0, x.block < W.heap.size := fun x hx => by simpa using hW'.lt x (by simpa using hx)
  have hb : Rows.uptoBulk d0 ≤ 1048576 := by
    have h := of_decide_eq_true hk
    simp only [Rows.uptoBulkAll] at h
    omega
  have hcall : Calls Try.prog 3 #[v0] W fun e w' => e = .returned (.bool true) ∧ Below W.heap.size W w' := by
    rcases open_script (hval 0 22 v0 rfl rfl) h0 hb with ⟨a, cap, rfl⟩ | ⟨b, off, n, cap, K, N, rfl, hn, hs⟩
    · exact walk0 a cap W
    · exact walkS W b off n cap K N hs hn
  refine hcall.mono fun e W' ⟨he, bel⟩ => ?_
  subst he
  exact ⟨_, rfl, _, _, _, [], _, [], hW', (trodAll_cons_mk (shut_bool Try.underlying4 _) trodAll_mk0), (trodAll_cons_mk (Below.trod Try.laidOut (by kernel_rfl) (of_decide_eq_true (by kernel_rfl)) h0 bel hlt) trodAll_mk0), rfl, bel.frame _, fun h => by cases h⟩
set_option maxRecDepth 100000 in
theorem lifted (os : Os) (started : os.Started) (H : Type) (enc : TypeId × Value → H) (F : Stop.Interp) :
    ReturnsInHanded {} Try.checked os 3 .any ((Rows.OpenSpec.upto Rows.cellsAllSpec).pre6 enc Try.prog Try.f3 Rows.cellsAllUptoRow.domain false) (((Rows.OpenSpec.upto Rows.cellsAllSpec).at F).post enc Try.prog Try.f3 false true false false) := by
  refine returnsInHanded_of_cond (C := Try.checked) (s := Rows.OpenSpec.upto Rows.cellsAllSpec) (k := Rows.uptoSmall) rfl own started (by kernel_rfl) Try.func3
    (OpenSpec.witness (enc := enc) (C := Try.checked) (s := Rows.OpenSpec.upto Rows.cellsAllSpec) (k := Rows.uptoSmall) rfl false ⟨#[], #[.slice none 0 0], []⟩ 8 (by kernel_rfl) (by kernel_rfl) (by kernel_rfl)
      (x := ([.nil], [], [])) (by kernel_rfl) rfl (by kernel_rfl)) ?_
  intro W base args ds gs before hval hW _ hk _
  exact contract H enc W base args ds gs before hval hW hk
set_option maxHeartbeats 0 in
theorem over : Rows.cellsAllUptoRow.holds Try.pinned (Rows.OpenSpec.upto Rows.cellsAllSpec) :=
  OpenClaim.holds_of_cond 3 Try.f3 rfl rfl rfl rfl rfl rfl rfl ⟨rfl, rfl, rfl, rfl, rfl⟩ rfl rfl rfl rfl rfl (by as_aux_lemma => kernel_rfl) Try.func3 (by as_aux_lemma => kernel_rfl)
    (of_decide_eq_true (by as_aux_lemma => kernel_rfl)) (by as_aux_lemma => unfold Func.isWrapper; first | (rw [if_pos (by decide +kernel)]; kernel_rfl) | (rw [if_neg (by decide +kernel)]; exact ⟨rfl, rfl⟩))
    (fun os started H enc _ F => lifted os started H enc F)
theorem proved : Rows.CellsAllUptoSaid :=
  over
#print axioms proved
end Go.Proofs.Ytoicddafonpjhaa.cellsAll
namespace Go.Proofs.Ytoicddafonpjhaa
theorem cellsAll_holds : Rows.CellsAllUptoSaid := cellsAll.proved
end Go.Proofs.Ytoicddafonpjhaa
