/- The walk through the document's Near. -/
import Derived.Test.YtmemefjhefmfhaaTd
import Derived.Test.YtmemefjhefmfhaaGf
namespace Go.Proofs.Ytmemefjhefmfhaa
open Go.RowKit Fp
set_option linter.unusedVariables false
set_option linter.unusedSimpArgs false
theorem nearest_doc (z : Int) (h0 : 0 ≤ z) : floatOfInt .f64 z = if z = 0 then 0 else near2 false z.toNat false 0 := by
  by_cases hz : z = 0
  · subst hz; rw [if_pos rfl]; decide +kernel
  · rw [if_neg hz]
    show Ieee.double.nearest (decide (z < 0)) z.natAbs 0 = _
    rw [nearest_eq _ _ _ (by omega), decide_eq_false (by omega), show z.natAbs = z.toNat by omega]
theorem Ldz_calls (z L : Int) (h0 : 0 ≤ z) (h1 : z ≤ 9007199254740992) (e0 : -9000 ≤ L) (e1 : L ≤ 9000) (w : World) :
    Calls Try.prog 52 #[.float .f64 (floatOfInt .f64 z), .int .i64 L] w fun e' w' => e' = .returned (.float .f64 (ldv z L)) ∧ w' = w := by
  rw [nearest_doc z h0]
  unfold ldv
  by_cases hz : z = 0
  · subst hz
    rw [if_pos rfl, if_pos rfl]
    exact Ldexp0_calls L w
  · rw [if_neg hz, if_neg hz]
    obtain ⟨a, ea, q1, q2, q3, q4⟩ := small_float z.toNat (by omega) (by omega)
    have h := Ldexp_calls a L q1 q2 q3 e0 e1 w
    rw [q4 L] at h
    rw [← ea, Int.toNat_natCast] at h
    exact h
theorem ldv_of (z L : Int) : OfG (ldv z L) = ((ldv z L : Nat) : Int) ∧ ldv z L < 18446744073709551616 := by
  unfold ldv
  split
  · exact ⟨by decide +kernel, by decide⟩
  · refine ⟨?_, by
      rw [near2_word]
      have e : Ieee.double.word false (rung z.toNat false L) = rung z.toNat false L := by unfold Ieee.Format.word; simp
      have := rung_le z.toNat false L
      omega⟩
    unfold OfG
    rw [near2_n, if_neg (by decide)]
theorem Ofz_calls (z L : Int) (w : World) : Calls Try.prog 15 #[.float .f64 (ldv z L)] w fun e w' => e = .returned (.int .u64 (ldv z L)) ∧ w' = w := Of_val (ldv_of z L).1 (ldv_of z L).2 w
theorem upR_1 {r m q : Int} {H : Bool} (h : m < r) : upR r m q H = true := by unfold upR; simp [h]
theorem upR_2 {r m q : Int} (h : r = m) : upR r m q true = true := by unfold upR; simp [h]
theorem upR_2' {r q : Int} : upR r r q true = true := by unfold upR; simp
theorem upR_3 {r m q : Int} {H : Bool} (h : r = m) (h2 : (q % 2 == 1) = true) : upR r m q H = true := by unfold upR; rw [beq_iff_eq] at h2; simp [h, h2]
theorem upR_3' {r q : Int} {H : Bool} (h2 : (q % 2 == 1) = true) : upR r r q H = true := by unfold upR; rw [beq_iff_eq] at h2; simp [h2]
theorem upR_4 {r m q : Int} {H : Bool} (h : r ≤ m) (h2 : ¬ r = m) : upR r m q H = false := by unfold upR; simp [h, h2]
theorem upR_5 {r m q : Int} (h : r ≤ m) (h2 : (q % 2 == 1) = false) : upR r m q false = false := by unfold upR; rw [beq_eq_false_iff_ne] at h2; simp [h, h2]
theorem upR_5' {r q : Int} (h2 : (q % 2 == 1) = false) : upR r r q false = false := by unfold upR; rw [beq_eq_false_iff_ne] at h2; simp [h2]
theorem ld_up {R E Q L : Int} {H : Bool} (h : upR R E Q H = true) : ((ldv (Q + 1) L : Nat) : Int) = ((ldv (Q + (if upR R E Q H then 1 else 0)) L : Nat) : Int) := by rw [if_pos h]
theorem ld_dn {R E Q L : Int} {H : Bool} (h : upR R E Q H = false) : ((ldv Q L : Nat) : Int) = ((ldv (Q + (if upR R E Q H then 1 else 0)) L : Nat) : Int) := by rw [h, if_neg (by decide), Int.add_zero]
theorem upR_6 {r m : Int} (h : r ≤ m) : upR r m 0 false = false := by unfold upR; simp [h]
theorem up64 {R E L : Int} {H : Bool} (h : upR R E 0 H = true) : ((ldv 1 L : Nat) : Int) = ((ldv (0 + (if upR R E 0 H then 1 else 0)) L : Nat) : Int) := ld_up h
theorem dn64 {R E L : Int} {H : Bool} (h : upR R E 0 H = false) : ((ldv 0 L : Nat) : Int) = ((ldv (0 + (if upR R E 0 H then 1 else 0)) L : Nat) : Int) := ld_dn h
--NEAR--
set_option maxRecDepth 100000 in
set_option maxHeartbeats 2000000 in
theorem RNear_0 (man exp : Int) (hu : U64 man) (w : World) : Calls Try.prog 25 #[.int .u64 man, .int .i64 exp, .bool false] w fun e w' => e = .returned (.int .u64 (NearG man exp false)) ∧ w' = w := by
  rw [near_doc0 man exp hu]
  obtain ⟨hc0, hc1⟩ := cl_bd exp
  have E1 : min (max exp (-5000)) 5000 = cl exp := rfl
  have m0 := hu.lo
  have m1 := hu.hi
  have hM : U64 man := ⟨by omega, by omega⟩
  have M0 := hM.lo
  have M1 := hM.hi
  have HB := fun w => bits97_calls man hM w
  have hb := nb_le (n := man.toNat) (by omega)
  obtain ⟨X, hX⟩ : ∃ y, cl exp = y := ⟨_, rfl⟩
  rw [hX] at hc0 hc1 E1 ⊢
  clear hX
  obtain ⟨B, hB⟩ : ∃ y : Int, ((nb man.toNat : Nat) : Int) = y := ⟨_, rfl⟩
  rw [hB] at HB
  have hB0 : 0 ≤ B := by omega
  have hB1 : B ≤ 64 := by omega
  obtain ⟨L, hL⟩ : ∃ y : Int, max (X + B - 53) (-1074) = y := ⟨_, rfl⟩
  have hL0 : -1074 ≤ L := by omega
  have hL1 : L ≤ 5020 := by omega
  replace HB := Lib.hid HB
  by_cases hz : man = 0
  · have hz' : (man == 0) = true := by rw [beq_iff_eq]; exact hz
    have E : nearD man X false = 0 := if_pos hz
    rw [E]
    clear hB hb hu hz hL0 hL1 hM M0 M1
    go_enter Try.func25, Try.ntmps25
    go_wp2_with (first | (go_at_call 51; refine (HB.out _).mono ?_; rintro e w' ⟨rfl, rfl⟩))
    go_ret
    exact ⟨rfl, rfl⟩
  have hz' : (man == 0) = false := by rw [beq_eq_false_iff_ne]; exact hz
  have D : Doc man X L (L - X) false := by
    refine ⟨hM, hz, by simp, ?_, rfl⟩
    have : B = (man.toNat.log2 : Int) + 1 := by rw [← hB, nb_pos (by omega)]; omega
    rw [← hL, this]; unfold lastP; congr 1; omega
  obtain ⟨C, hC⟩ : ∃ y : Int, L - X = y := ⟨_, rfl⟩
  rw [hC] at D
  replace D := Lib.hid D
  clear hB hb hu hM
  by_cases c1 : 64 < C
  · rw [doc_gone D.out c1]
    clear hz
    go_enter Try.func25, Try.ntmps25
    go_wp2_with (first | (go_at_call 51; refine (HB.out _).mono ?_; rintro e w' ⟨rfl, rfl⟩))
    go_ret
    exact ⟨rfl, rfl⟩
  by_cases c2 : C ≤ 0
  · obtain ⟨E, e2⟩ := doc_small D.out c2
    rw [E]
    clear hz E
    have HL := fun w => Ldz_calls man X M0 e2 (by omega) (by omega) w
    have HO := fun w => Ofz_calls man X w
    generalize ldv man X = r at *
    replace HL := Lib.hid HL
    replace HO := Lib.hid HO
    go_enter Try.func25, Try.ntmps25
    go_wp2_with (first | (go_at_call 51; refine (HB.out _).mono ?_; rintro e w' ⟨rfl, rfl⟩) | (go_at_call 52; refine (HL.out _).mono ?_; rintro e w' ⟨rfl, rfl⟩) | (go_at_call 15; refine (HO.out _).mono ?_; rintro e w' ⟨rfl, rfl⟩))
    go_ret
    exact ⟨rfl, rfl⟩
  obtain ⟨Q, R, T, E, e1, q0, q1, E4, E5, t0, t1, E6, r0, E7, m0', E8⟩ := doc_vals D.out (by omega) (by omega)
  obtain ⟨res, hres⟩ : ∃ y, nearD man X false = y := ⟨_, rfl⟩
  rw [hres] at e1 ⊢
  have HR := Lib.hid e1
  clear hz e1 hres
  have HL := fun z (h : 0 ≤ z ∧ z ≤ 9007199254740992) w => Ldz_calls z L h.1 h.2 (by omega) (by omega) w
  have HO := fun z w => Ofz_calls z L w
  replace HL := Lib.hid HL
  replace HO := Lib.hid HO
  by_cases c3 : C < 64
  · clear E8
    go_enter Try.func25, Try.ntmps25
    go_wp2_with (first | (go_at_call 51; refine (HB.out _).mono ?_; rintro e w' ⟨rfl, rfl⟩) | (go_at_call 52; refine (HL.out _ ⟨by omega, by omega⟩ _).mono ?_; rintro e w' ⟨rfl, rfl⟩) | (go_at_call 15; refine (HO.out _ _).mono ?_; rintro e w' ⟨rfl, rfl⟩))
    all_goals go_ret
    all_goals refine ⟨ret_int ?_, rfl⟩
    all_goals rw [HR.out]
    all_goals with_reducible first | exact ld_up (upR_1 ‹_›) | exact ld_up (upR_2 ‹_›) | exact ld_up (upR_2' ‹_›) | exact ld_up (upR_3 ‹_› ‹_›) | exact ld_up (upR_3' ‹_›) | exact ld_dn (upR_4 ‹_› ‹_›) | exact ld_dn (upR_5 ‹_› ‹_›) | exact ld_dn (upR_5' ‹_›)
  · obtain rfl : C = 64 := by omega
    obtain ⟨rfl, rfl, rfl, rfl⟩ := E8 rfl
    clear E5 E6
    go_enter Try.func25, Try.ntmps25
    go_wp2_with (first | (go_at_call 51; refine (HB.out _).mono ?_; rintro e w' ⟨rfl, rfl⟩) | (go_at_call 52; refine (HL.out _ ⟨by omega, by omega⟩ _).mono ?_; rintro e w' ⟨rfl, rfl⟩) | (go_at_call 15; refine (HO.out _ _).mono ?_; rintro e w' ⟨rfl, rfl⟩))
    all_goals go_ret
    all_goals refine ⟨ret_int ?_, rfl⟩
    all_goals rw [HR.out]
    all_goals first | exact up64 (upR_1 ‹_›) | exact up64 (upR_2 ‹_›) | exact up64 (upR_2') | exact dn64 (upR_6 ‹_›) | exact dn64 (upR_4 ‹_› ‹_›)
set_option maxRecDepth 100000 in
set_option maxHeartbeats 2000000 in
theorem RNear_1 (man exp : Int) (hu : U64 man) (hlt : man < 9223372036854775808) (w : World) : Calls Try.prog 25 #[.int .u64 man, .int .i64 exp, .bool true] w fun e w' => e = .returned (.int .u64 (NearG man exp true)) ∧ w' = w := by
  rw [near_doc1 man exp hu hlt]
  obtain ⟨hc0, hc1⟩ := cl_bd exp
  have E1 : min (max exp (-5000)) 5000 = cl exp := rfl
  have m0 := hu.lo
  have m1 := hu.hi
  have hM : U64 (2 * man + 1) := ⟨by omega, by omega⟩
  have M0 := hM.lo
  have M1 := hM.hi
  have HB := fun w => bits97_calls (2 * man + 1) hM w
  have hb := nb_le (n := (2 * man + 1).toNat) (by omega)
  obtain ⟨X, hX⟩ : ∃ y, cl exp = y := ⟨_, rfl⟩
  rw [hX] at hc0 hc1 E1 ⊢
  clear hX
  obtain ⟨B, hB⟩ : ∃ y : Int, ((nb (2 * man + 1).toNat : Nat) : Int) = y := ⟨_, rfl⟩
  rw [hB] at HB
  have hB0 : 0 ≤ B := by omega
  have hB1 : B ≤ 64 := by omega
  obtain ⟨L, hL⟩ : ∃ y : Int, max ((X - 1) + B - 53) (-1074) = y := ⟨_, rfl⟩
  have hL0 : -1074 ≤ L := by omega
  have hL1 : L ≤ 5020 := by omega
  replace HB := Lib.hid HB
  have hz : (2 * man + 1) ≠ 0 := by omega
  have hz' : ((2 * man + 1) == 0) = false := by rw [beq_eq_false_iff_ne]; exact hz
  have D : Doc (2 * man + 1) (X - 1) L (L - (X - 1)) false := by
    refine ⟨hM, hz, by simp, ?_, rfl⟩
    have : B = ((2 * man + 1).toNat.log2 : Int) + 1 := by rw [← hB, nb_pos (by omega)]; omega
    rw [← hL, this]; unfold lastP; congr 1; omega
  obtain ⟨C, hC⟩ : ∃ y : Int, L - (X - 1) = y := ⟨_, rfl⟩
  rw [hC] at D
  replace D := Lib.hid D
  clear hB hb hu hM
  by_cases c1 : 64 < C
  · rw [doc_gone D.out c1]
    clear hz
    go_enter Try.func25, Try.ntmps25
    go_wp2_with (first | (go_at_call 51; refine (HB.out _).mono ?_; rintro e w' ⟨rfl, rfl⟩))
    go_ret
    exact ⟨rfl, rfl⟩
  by_cases c2 : C ≤ 0
  · obtain ⟨E, e2⟩ := doc_small D.out c2
    rw [E]
    clear hz E
    have HL := fun w => Ldz_calls (2 * man + 1) (X - 1) M0 e2 (by omega) (by omega) w
    have HO := fun w => Ofz_calls (2 * man + 1) (X - 1) w
    generalize ldv (2 * man + 1) (X - 1) = r at *
    replace HL := Lib.hid HL
    replace HO := Lib.hid HO
    go_enter Try.func25, Try.ntmps25
    go_wp2_with (first | (go_at_call 51; refine (HB.out _).mono ?_; rintro e w' ⟨rfl, rfl⟩) | (go_at_call 52; refine (HL.out _).mono ?_; rintro e w' ⟨rfl, rfl⟩) | (go_at_call 15; refine (HO.out _).mono ?_; rintro e w' ⟨rfl, rfl⟩))
    go_ret
    exact ⟨rfl, rfl⟩
  obtain ⟨Q, R, T, E, e1, q0, q1, E4, E5, t0, t1, E6, r0, E7, m0', E8⟩ := doc_vals D.out (by omega) (by omega)
  obtain ⟨res, hres⟩ : ∃ y, nearD (2 * man + 1) (X - 1) false = y := ⟨_, rfl⟩
  rw [hres] at e1 ⊢
  have HR := Lib.hid e1
  clear hz e1 hres
  have HL := fun z (h : 0 ≤ z ∧ z ≤ 9007199254740992) w => Ldz_calls z L h.1 h.2 (by omega) (by omega) w
  have HO := fun z w => Ofz_calls z L w
  replace HL := Lib.hid HL
  replace HO := Lib.hid HO
  by_cases c3 : C < 64
  · clear E8
    go_enter Try.func25, Try.ntmps25
    go_wp2_with (first | (go_at_call 51; refine (HB.out _).mono ?_; rintro e w' ⟨rfl, rfl⟩) | (go_at_call 52; refine (HL.out _ ⟨by omega, by omega⟩ _).mono ?_; rintro e w' ⟨rfl, rfl⟩) | (go_at_call 15; refine (HO.out _ _).mono ?_; rintro e w' ⟨rfl, rfl⟩))
    all_goals go_ret
    all_goals refine ⟨ret_int ?_, rfl⟩
    all_goals rw [HR.out]
    all_goals with_reducible first | exact ld_up (upR_1 ‹_›) | exact ld_up (upR_2 ‹_›) | exact ld_up (upR_2' ‹_›) | exact ld_up (upR_3 ‹_› ‹_›) | exact ld_up (upR_3' ‹_›) | exact ld_dn (upR_4 ‹_› ‹_›) | exact ld_dn (upR_5 ‹_› ‹_›) | exact ld_dn (upR_5' ‹_›)
  · obtain rfl : C = 64 := by omega
    obtain ⟨rfl, rfl, rfl, rfl⟩ := E8 rfl
    clear E5 E6
    go_enter Try.func25, Try.ntmps25
    go_wp2_with (first | (go_at_call 51; refine (HB.out _).mono ?_; rintro e w' ⟨rfl, rfl⟩) | (go_at_call 52; refine (HL.out _ ⟨by omega, by omega⟩ _).mono ?_; rintro e w' ⟨rfl, rfl⟩) | (go_at_call 15; refine (HO.out _ _).mono ?_; rintro e w' ⟨rfl, rfl⟩))
    all_goals go_ret
    all_goals refine ⟨ret_int ?_, rfl⟩
    all_goals rw [HR.out]
    all_goals first | exact up64 (upR_1 ‹_›) | exact up64 (upR_2 ‹_›) | exact up64 (upR_2') | exact dn64 (upR_6 ‹_›) | exact dn64 (upR_4 ‹_› ‹_›)
set_option maxRecDepth 100000 in
set_option maxHeartbeats 2000000 in
theorem RNear_2 (man exp : Int) (hu : U64 man) (hge : 9223372036854775808 ≤ man) (w : World) : Calls Try.prog 25 #[.int .u64 man, .int .i64 exp, .bool true] w fun e w' => e = .returned (.int .u64 (NearG man exp true)) ∧ w' = w := by
  rw [near_doc2 man exp hu hge]
  obtain ⟨hc0, hc1⟩ := cl_bd exp
  have E1 : min (max exp (-5000)) 5000 = cl exp := rfl
  have m0 := hu.lo
  have m1 := hu.hi
  have hM : U64 man := ⟨by omega, by omega⟩
  have M0 := hM.lo
  have M1 := hM.hi
  have HB := fun w => bits97_calls man hM w
  have hb := nb_le (n := man.toNat) (by omega)
  obtain ⟨X, hX⟩ : ∃ y, cl exp = y := ⟨_, rfl⟩
  rw [hX] at hc0 hc1 E1 ⊢
  clear hX
  obtain ⟨B, hB⟩ : ∃ y : Int, ((nb man.toNat : Nat) : Int) = y := ⟨_, rfl⟩
  rw [hB] at HB
  have hB0 : 0 ≤ B := by omega
  have hB1 : B ≤ 64 := by omega
  obtain ⟨L, hL⟩ : ∃ y : Int, max (X + B - 53) (-1074) = y := ⟨_, rfl⟩
  have hL0 : -1074 ≤ L := by omega
  have hL1 : L ≤ 5020 := by omega
  replace HB := Lib.hid HB
  have hz : man ≠ 0 := by omega
  have hz' : (man == 0) = false := by rw [beq_eq_false_iff_ne]; exact hz
  have D : Doc man X L (L - X) true := by
    refine ⟨hM, hz, fun _ => hge, ?_, rfl⟩
    have : B = (man.toNat.log2 : Int) + 1 := by rw [← hB, nb_pos (by omega)]; omega
    rw [← hL, this]; unfold lastP; congr 1; omega
  obtain ⟨C, hC⟩ : ∃ y : Int, L - X = y := ⟨_, rfl⟩
  rw [hC] at D
  replace D := Lib.hid D
  clear hB hb hu hM
  by_cases c1 : 64 < C
  · rw [doc_gone D.out c1]
    clear hz
    go_enter Try.func25, Try.ntmps25
    go_wp2_with (first | (go_at_call 51; refine (HB.out _).mono ?_; rintro e w' ⟨rfl, rfl⟩))
    go_ret
    exact ⟨rfl, rfl⟩
  by_cases c2 : C ≤ 0
  · obtain ⟨E, e2⟩ := doc_small D.out c2
    omega
  obtain ⟨Q, R, T, E, e1, q0, q1, E4, E5, t0, t1, E6, r0, E7, m0', E8⟩ := doc_vals D.out (by omega) (by omega)
  obtain ⟨res, hres⟩ : ∃ y, nearD man X true = y := ⟨_, rfl⟩
  rw [hres] at e1 ⊢
  have HR := Lib.hid e1
  clear hz e1 hres
  have HL := fun z (h : 0 ≤ z ∧ z ≤ 9007199254740992) w => Ldz_calls z L h.1 h.2 (by omega) (by omega) w
  have HO := fun z w => Ofz_calls z L w
  replace HL := Lib.hid HL
  replace HO := Lib.hid HO
  by_cases c3 : C < 64
  · clear E8
    go_enter Try.func25, Try.ntmps25
    go_wp2_with (first | (go_at_call 51; refine (HB.out _).mono ?_; rintro e w' ⟨rfl, rfl⟩) | (go_at_call 52; refine (HL.out _ ⟨by omega, by omega⟩ _).mono ?_; rintro e w' ⟨rfl, rfl⟩) | (go_at_call 15; refine (HO.out _ _).mono ?_; rintro e w' ⟨rfl, rfl⟩))
    all_goals go_ret
    all_goals refine ⟨ret_int ?_, rfl⟩
    all_goals rw [HR.out]
    all_goals with_reducible first | exact ld_up (upR_1 ‹_›) | exact ld_up (upR_2 ‹_›) | exact ld_up (upR_2' ‹_›) | exact ld_up (upR_3 ‹_› ‹_›) | exact ld_up (upR_3' ‹_›) | exact ld_dn (upR_4 ‹_› ‹_›) | exact ld_dn (upR_5 ‹_› ‹_›) | exact ld_dn (upR_5' ‹_›)
  · obtain rfl : C = 64 := by omega
    obtain ⟨rfl, rfl, rfl, rfl⟩ := E8 rfl
    clear E5 E6
    go_enter Try.func25, Try.ntmps25
    go_wp2_with (first | (go_at_call 51; refine (HB.out _).mono ?_; rintro e w' ⟨rfl, rfl⟩) | (go_at_call 52; refine (HL.out _ ⟨by omega, by omega⟩ _).mono ?_; rintro e w' ⟨rfl, rfl⟩) | (go_at_call 15; refine (HO.out _ _).mono ?_; rintro e w' ⟨rfl, rfl⟩))
    all_goals go_ret
    all_goals refine ⟨ret_int ?_, rfl⟩
    all_goals rw [HR.out]
    all_goals first | exact up64 (upR_1 ‹_›) | exact up64 (upR_2 ‹_›) | exact up64 (upR_2') | exact dn64 (upR_6 ‹_›) | exact dn64 (upR_4 ‹_› ‹_›)
--END--
theorem RNear_calls (man exp : Int) (half : Bool) (hu : U64 man) (w : World) : Calls Try.prog 25 #[.int .u64 man, .int .i64 exp, .bool half] w fun e w' => e = .returned (.int .u64 (NearG man exp half)) ∧ w' = w := by
  cases half
  · exact RNear_0 man exp hu w
  · by_cases c : man < 9223372036854775808
    · exact RNear_1 man exp hu c w
    · exact RNear_2 man exp hu (by omega) w
end Go.Proofs.Ytmemefjhefmfhaa
