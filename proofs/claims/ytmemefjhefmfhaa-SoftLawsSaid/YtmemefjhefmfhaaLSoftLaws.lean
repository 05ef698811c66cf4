/- For every three uint64s the call of SoftLaws returns true, and its arguments read as before; no condition. -/
import Derived.Test.YtmemefjhefmfhaaRows
import Derived.WalkKit
import Derived.ProofKit
import Derived.OpenShut
import Derived.Test.YtmemefjhefmfhaaSh
import Derived.Test.YtmemefjhefmfhaaSc
import Derived.Test.YtmemefjhefmfhaaSi
import Derived.Test.YtmemefjhefmfhaaTa
import Derived.Test.YtmemefjhefmfhaaFz
namespace Go.Proofs.Ytmemefjhefmfhaa.softLaws
open Go.ChangeShapes Go.WideShapes Go.ChangeAt Go.RowKit Fp
set_option linter.unusedSimpArgs false
set_option linter.unusedVariables false      -- a walk need not use every 'w<i>' (that an integer argument fits its kind)

theorem own : ownKnob Try.prog.godebug = none := by kernel_rfl

set_option maxRecDepth 100000 in
theorem walkNaN (a b c s m : Int) (eq : Bool) (w : World) (n1 : isNaN s = true) (n2 : isNaN a = true) (n3 : isNaN 9221120237041090560 = true)
    (A1 : ∀ w, Calls Try.prog 19 #[.int .u64 a, .int .u64 b] w fun e w' => e = .returned (.int .u64 s) ∧ Below w.heap.size w w')
    (A2 : ∀ w, Calls Try.prog 19 #[.int .u64 b, .int .u64 a] w fun e w' => e = .returned (.int .u64 s) ∧ Below w.heap.size w w')
    (M1 : ∀ w, Calls Try.prog 21 #[.int .u64 a, .int .u64 b] w fun e w' => e = .returned (.int .u64 m) ∧ Below w.heap.size w w')
    (M2 : ∀ w, Calls Try.prog 21 #[.int .u64 b, .int .u64 a] w fun e w' => e = .returned (.int .u64 m) ∧ Below w.heap.size w w')
    (R1 : ∀ w, Calls Try.prog 23 #[.int .u64 b, .int .u64 a] w fun e w' => e = .returned (.int .u64 9221120237041090560) ∧ Below w.heap.size w w')
    (E1 : ∀ w, Calls Try.prog 13 #[.int .u64 a, .int .u64 a] w fun e w' => e = .returned (.bool false) ∧ w' = w) :
    Calls Try.prog 5 #[.int .u64 a, .int .u64 b, .int .u64 c] w fun e w' => e = .returned (.bool true) ∧ Below w.heap.size w w' := by
  replace A1 := Lib.hid A1
  replace A2 := Lib.hid A2
  replace M1 := Lib.hid M1
  replace M2 := Lib.hid M2
  replace R1 := Lib.hid R1
  replace E1 := Lib.hid E1
  go_enter Try.func5, Try.ntmps5
  go_wp2_with (first | (go_at_call 11; refine (alive01 _).mono ?_; rintro e w1 ⟨rfl, hb1⟩) | (go_at_call 19; with_reducible first | (refine (A1.out _).mono ?_; rintro e w1 ⟨rfl, hb1⟩) | (refine (A2.out _).mono ?_; rintro e w1 ⟨rfl, hb1⟩)) | (go_at_call 21; with_reducible first | (refine (M1.out _).mono ?_; rintro e w1 ⟨rfl, hb1⟩) | (refine (M2.out _).mono ?_; rintro e w1 ⟨rfl, hb1⟩)) | (go_at_call 16; refine (isNaN_calls _ _).mono ?_; rintro e w' ⟨rfl, rfl⟩) | (go_at_call 23; refine (R1.out _).mono ?_; rintro e w1 ⟨rfl, hb1⟩) | (go_at_call 13; refine (E1.out _).mono ?_; rintro e w' ⟨rfl, rfl⟩))
  all_goals go_ret
  all_goals exact ⟨rfl, by repeat (first | exact Below.refl _ _ | apply below_alloc | refine below_via (by assumption) ?_)⟩
set_option maxRecDepth 100000 in
set_option maxHeartbeats 8000000 in
theorem walkNum (a b c s m na u v sa r p q mp mq : Int) (e0 er ia l nc ic lf z ml : Bool) (w : World) (n2 : isNaN a = false) (n3 : isNaN c = nc)
    (hsa : ia = false → sa = 0) (her : ia = false → e0 = false → er = true) (hlf : l = true → nc = false → ic = false → lf = false) (hml : l = true → nc = false → ic = false → z = true → ml = false)
    (A1 : ∀ w, Calls Try.prog 19 #[.int .u64 a, .int .u64 b] w fun e w' => e = .returned (.int .u64 s) ∧ Below w.heap.size w w')
    (A2 : ∀ w, Calls Try.prog 19 #[.int .u64 b, .int .u64 a] w fun e w' => e = .returned (.int .u64 s) ∧ Below w.heap.size w w')
    (M1 : ∀ w, Calls Try.prog 21 #[.int .u64 a, .int .u64 b] w fun e w' => e = .returned (.int .u64 m) ∧ Below w.heap.size w w')
    (M2 : ∀ w, Calls Try.prog 21 #[.int .u64 b, .int .u64 a] w fun e w' => e = .returned (.int .u64 m) ∧ Below w.heap.size w w')
    (N1 : ∀ w, Calls Try.prog 14 #[.int .u64 a] w fun e w' => e = .returned (.int .u64 na) ∧ w' = w)
    (N2 : ∀ w, Calls Try.prog 14 #[.int .u64 na] w fun e w' => e = .returned (.int .u64 a) ∧ w' = w)
    (D1 : ∀ w, Calls Try.prog 22 #[.int .u64 a, .int .u64 4607182418800017408] w fun e w' => e = .returned (.int .u64 a) ∧ Below w.heap.size w w')
    (S1 : ∀ w, Calls Try.prog 20 #[.int .u64 0, .int .u64 a] w fun e w' => e = .returned (.int .u64 u) ∧ Below w.heap.size w w')
    (S2 : ∀ w, Calls Try.prog 20 #[.int .u64 0, .int .u64 u] w fun e w' => e = .returned (.int .u64 v) ∧ Below w.heap.size w w')
    (A3 : ∀ w, Calls Try.prog 19 #[.int .u64 a, .int .u64 0] w fun e w' => e = .returned (.int .u64 v) ∧ Below w.heap.size w w')
    (I1 : ∀ w, Calls Try.prog 17 #[.int .u64 a] w fun e w' => e = .returned (.bool ia) ∧ w' = w)
    (I2 : ∀ w, Calls Try.prog 17 #[.int .u64 c] w fun e w' => e = .returned (.bool ic) ∧ w' = w)
    (S3 : ∀ w, Calls Try.prog 20 #[.int .u64 a, .int .u64 a] w fun e w' => e = .returned (.int .u64 sa) ∧ Below w.heap.size w w')
    (E1 : ∀ w, Calls Try.prog 13 #[.int .u64 a, .int .u64 0] w fun e w' => e = .returned (.bool e0) ∧ w' = w)
    (R1 : ∀ w, Calls Try.prog 23 #[.int .u64 a, .int .u64 a] w fun e w' => e = .returned (.int .u64 r) ∧ Below w.heap.size w w')
    (E2 : ∀ w, Calls Try.prog 13 #[.int .u64 r, .int .u64 0] w fun e w' => e = .returned (.bool er) ∧ w' = w)
    (L1 : ∀ w, Calls Try.prog 12 #[.int .u64 a, .int .u64 b] w fun e w' => e = .returned (.bool l) ∧ w' = w)
    (A4 : ∀ w, Calls Try.prog 19 #[.int .u64 b, .int .u64 c] w fun e w' => e = .returned (.int .u64 p) ∧ Below w.heap.size w w')
    (A5 : ∀ w, Calls Try.prog 19 #[.int .u64 a, .int .u64 c] w fun e w' => e = .returned (.int .u64 q) ∧ Below w.heap.size w w')
    (L2 : ∀ w, Calls Try.prog 12 #[.int .u64 p, .int .u64 q] w fun e w' => e = .returned (.bool lf) ∧ w' = w)
    (L3 : ∀ w, Calls Try.prog 12 #[.int .u64 0, .int .u64 c] w fun e w' => e = .returned (.bool z) ∧ w' = w)
    (M3 : ∀ w, Calls Try.prog 21 #[.int .u64 b, .int .u64 c] w fun e w' => e = .returned (.int .u64 mp) ∧ Below w.heap.size w w')
    (M4 : ∀ w, Calls Try.prog 21 #[.int .u64 a, .int .u64 c] w fun e w' => e = .returned (.int .u64 mq) ∧ Below w.heap.size w w')
    (L4 : ∀ w, Calls Try.prog 12 #[.int .u64 mp, .int .u64 mq] w fun e w' => e = .returned (.bool ml) ∧ w' = w) :
    Calls Try.prog 5 #[.int .u64 a, .int .u64 b, .int .u64 c] w fun e w' => e = .returned (.bool true) ∧ Below w.heap.size w w' := by
  have c3 : (ia = true) ∨ (ia = false ∧ e0 = true) ∨ (ia = false ∧ e0 = false) := by cases ia <;> cases e0 <;> simp
  have c5 : (l = false) ∨ (l = true ∧ nc = true) ∨ (l = true ∧ nc = false ∧ ic = true) ∨ (l = true ∧ nc = false ∧ ic = false ∧ z = false) ∨ (l = true ∧ nc = false ∧ ic = false ∧ z = true) := by cases l <;> cases nc <;> cases ic <;> cases z <;> simp
  replace hsa := Lib.hid hsa
  replace her := Lib.hid her
  replace hlf := Lib.hid hlf
  replace hml := Lib.hid hml
  replace A1 := Lib.hid A1
  replace A2 := Lib.hid A2
  replace A3 := Lib.hid A3
  replace A4 := Lib.hid A4
  replace A5 := Lib.hid A5
  replace M1 := Lib.hid M1
  replace M2 := Lib.hid M2
  replace M3 := Lib.hid M3
  replace M4 := Lib.hid M4
  replace N1 := Lib.hid N1
  replace N2 := Lib.hid N2
  replace D1 := Lib.hid D1
  replace S1 := Lib.hid S1
  replace S2 := Lib.hid S2
  replace S3 := Lib.hid S3
  replace I1 := Lib.hid I1
  replace I2 := Lib.hid I2
  replace E1 := Lib.hid E1
  replace E2 := Lib.hid E2
  replace R1 := Lib.hid R1
  replace L1 := Lib.hid L1
  replace L2 := Lib.hid L2
  replace L3 := Lib.hid L3
  replace L4 := Lib.hid L4
  rcases c3 with rfl | ⟨rfl, rfl⟩ | ⟨rfl, rfl⟩
  · rcases c5 with rfl | ⟨rfl, rfl⟩ | ⟨rfl, rfl, rfl⟩ | ⟨rfl, rfl, rfl, rfl⟩ | ⟨rfl, rfl, rfl, rfl⟩
    all_goals (try obtain rfl := hlf.out rfl rfl rfl)
    all_goals (try obtain rfl := hml.out rfl rfl rfl rfl)
    all_goals
      go_enter Try.func5, Try.ntmps5
      go_wp2_with (first | (go_at_call 11; refine (alive01 _).mono ?_; rintro e w1 ⟨rfl, hb1⟩) | (go_at_call 19; with_reducible first | (refine (A1.out _).mono ?_; rintro e w1 ⟨rfl, hb1⟩) | (refine (A2.out _).mono ?_; rintro e w1 ⟨rfl, hb1⟩) | (refine (A3.out _).mono ?_; rintro e w1 ⟨rfl, hb1⟩) | (refine (A4.out _).mono ?_; rintro e w1 ⟨rfl, hb1⟩) | (refine (A5.out _).mono ?_; rintro e w1 ⟨rfl, hb1⟩)) | (go_at_call 21; with_reducible first | (refine (M1.out _).mono ?_; rintro e w1 ⟨rfl, hb1⟩) | (refine (M2.out _).mono ?_; rintro e w1 ⟨rfl, hb1⟩) | (refine (M3.out _).mono ?_; rintro e w1 ⟨rfl, hb1⟩) | (refine (M4.out _).mono ?_; rintro e w1 ⟨rfl, hb1⟩)) | (go_at_call 16; refine (isNaN_calls _ _).mono ?_; rintro e w' ⟨rfl, rfl⟩) | (go_at_call 14; with_reducible first | (refine (N1.out _).mono ?_; rintro e w' ⟨rfl, rfl⟩) | (refine (N2.out _).mono ?_; rintro e w' ⟨rfl, rfl⟩)) | (go_at_call 22; refine (D1.out _).mono ?_; rintro e w1 ⟨rfl, hb1⟩) | (go_at_call 20; with_reducible first | (refine (S1.out _).mono ?_; rintro e w1 ⟨rfl, hb1⟩) | (refine (S2.out _).mono ?_; rintro e w1 ⟨rfl, hb1⟩) | (refine (S3.out _).mono ?_; rintro e w1 ⟨rfl, hb1⟩)) | (go_at_call 17; with_reducible first | (refine (I1.out _).mono ?_; rintro e w' ⟨rfl, rfl⟩) | (refine (I2.out _).mono ?_; rintro e w' ⟨rfl, rfl⟩)) | (go_at_call 13; with_reducible first | (refine (E1.out _).mono ?_; rintro e w' ⟨rfl, rfl⟩) | (refine (E2.out _).mono ?_; rintro e w' ⟨rfl, rfl⟩)) | (go_at_call 23; refine (R1.out _).mono ?_; rintro e w1 ⟨rfl, hb1⟩) | (go_at_call 12; with_reducible first | (refine (L1.out _).mono ?_; rintro e w' ⟨rfl, rfl⟩) | (refine (L2.out _).mono ?_; rintro e w' ⟨rfl, rfl⟩) | (refine (L3.out _).mono ?_; rintro e w' ⟨rfl, rfl⟩) | (refine (L4.out _).mono ?_; rintro e w' ⟨rfl, rfl⟩)))
      all_goals go_ret
      all_goals exact ⟨rfl, by repeat (first | exact Below.refl _ _ | apply below_alloc | refine below_via (by assumption) ?_)⟩
  · obtain rfl := hsa.out rfl
    rcases c5 with rfl | ⟨rfl, rfl⟩ | ⟨rfl, rfl, rfl⟩ | ⟨rfl, rfl, rfl, rfl⟩ | ⟨rfl, rfl, rfl, rfl⟩
    all_goals (try obtain rfl := hlf.out rfl rfl rfl)
    all_goals (try obtain rfl := hml.out rfl rfl rfl rfl)
    all_goals
      go_enter Try.func5, Try.ntmps5
      go_wp2_with (first | (go_at_call 11; refine (alive01 _).mono ?_; rintro e w1 ⟨rfl, hb1⟩) | (go_at_call 19; with_reducible first | (refine (A1.out _).mono ?_; rintro e w1 ⟨rfl, hb1⟩) | (refine (A2.out _).mono ?_; rintro e w1 ⟨rfl, hb1⟩) | (refine (A3.out _).mono ?_; rintro e w1 ⟨rfl, hb1⟩) | (refine (A4.out _).mono ?_; rintro e w1 ⟨rfl, hb1⟩) | (refine (A5.out _).mono ?_; rintro e w1 ⟨rfl, hb1⟩)) | (go_at_call 21; with_reducible first | (refine (M1.out _).mono ?_; rintro e w1 ⟨rfl, hb1⟩) | (refine (M2.out _).mono ?_; rintro e w1 ⟨rfl, hb1⟩) | (refine (M3.out _).mono ?_; rintro e w1 ⟨rfl, hb1⟩) | (refine (M4.out _).mono ?_; rintro e w1 ⟨rfl, hb1⟩)) | (go_at_call 16; refine (isNaN_calls _ _).mono ?_; rintro e w' ⟨rfl, rfl⟩) | (go_at_call 14; with_reducible first | (refine (N1.out _).mono ?_; rintro e w' ⟨rfl, rfl⟩) | (refine (N2.out _).mono ?_; rintro e w' ⟨rfl, rfl⟩)) | (go_at_call 22; refine (D1.out _).mono ?_; rintro e w1 ⟨rfl, hb1⟩) | (go_at_call 20; with_reducible first | (refine (S1.out _).mono ?_; rintro e w1 ⟨rfl, hb1⟩) | (refine (S2.out _).mono ?_; rintro e w1 ⟨rfl, hb1⟩) | (refine (S3.out _).mono ?_; rintro e w1 ⟨rfl, hb1⟩)) | (go_at_call 17; with_reducible first | (refine (I1.out _).mono ?_; rintro e w' ⟨rfl, rfl⟩) | (refine (I2.out _).mono ?_; rintro e w' ⟨rfl, rfl⟩)) | (go_at_call 13; with_reducible first | (refine (E1.out _).mono ?_; rintro e w' ⟨rfl, rfl⟩) | (refine (E2.out _).mono ?_; rintro e w' ⟨rfl, rfl⟩)) | (go_at_call 23; refine (R1.out _).mono ?_; rintro e w1 ⟨rfl, hb1⟩) | (go_at_call 12; with_reducible first | (refine (L1.out _).mono ?_; rintro e w' ⟨rfl, rfl⟩) | (refine (L2.out _).mono ?_; rintro e w' ⟨rfl, rfl⟩) | (refine (L3.out _).mono ?_; rintro e w' ⟨rfl, rfl⟩) | (refine (L4.out _).mono ?_; rintro e w' ⟨rfl, rfl⟩)))
      all_goals go_ret
      all_goals exact ⟨rfl, by repeat (first | exact Below.refl _ _ | apply below_alloc | refine below_via (by assumption) ?_)⟩
  · obtain rfl := hsa.out rfl
    obtain rfl := her.out rfl rfl
    rcases c5 with rfl | ⟨rfl, rfl⟩ | ⟨rfl, rfl, rfl⟩ | ⟨rfl, rfl, rfl, rfl⟩ | ⟨rfl, rfl, rfl, rfl⟩
    all_goals (try obtain rfl := hlf.out rfl rfl rfl)
    all_goals (try obtain rfl := hml.out rfl rfl rfl rfl)
    all_goals
      go_enter Try.func5, Try.ntmps5
      go_wp2_with (first | (go_at_call 11; refine (alive01 _).mono ?_; rintro e w1 ⟨rfl, hb1⟩) | (go_at_call 19; with_reducible first | (refine (A1.out _).mono ?_; rintro e w1 ⟨rfl, hb1⟩) | (refine (A2.out _).mono ?_; rintro e w1 ⟨rfl, hb1⟩) | (refine (A3.out _).mono ?_; rintro e w1 ⟨rfl, hb1⟩) | (refine (A4.out _).mono ?_; rintro e w1 ⟨rfl, hb1⟩) | (refine (A5.out _).mono ?_; rintro e w1 ⟨rfl, hb1⟩)) | (go_at_call 21; with_reducible first | (refine (M1.out _).mono ?_; rintro e w1 ⟨rfl, hb1⟩) | (refine (M2.out _).mono ?_; rintro e w1 ⟨rfl, hb1⟩) | (refine (M3.out _).mono ?_; rintro e w1 ⟨rfl, hb1⟩) | (refine (M4.out _).mono ?_; rintro e w1 ⟨rfl, hb1⟩)) | (go_at_call 16; refine (isNaN_calls _ _).mono ?_; rintro e w' ⟨rfl, rfl⟩) | (go_at_call 14; with_reducible first | (refine (N1.out _).mono ?_; rintro e w' ⟨rfl, rfl⟩) | (refine (N2.out _).mono ?_; rintro e w' ⟨rfl, rfl⟩)) | (go_at_call 22; refine (D1.out _).mono ?_; rintro e w1 ⟨rfl, hb1⟩) | (go_at_call 20; with_reducible first | (refine (S1.out _).mono ?_; rintro e w1 ⟨rfl, hb1⟩) | (refine (S2.out _).mono ?_; rintro e w1 ⟨rfl, hb1⟩) | (refine (S3.out _).mono ?_; rintro e w1 ⟨rfl, hb1⟩)) | (go_at_call 17; with_reducible first | (refine (I1.out _).mono ?_; rintro e w' ⟨rfl, rfl⟩) | (refine (I2.out _).mono ?_; rintro e w' ⟨rfl, rfl⟩)) | (go_at_call 13; with_reducible first | (refine (E1.out _).mono ?_; rintro e w' ⟨rfl, rfl⟩) | (refine (E2.out _).mono ?_; rintro e w' ⟨rfl, rfl⟩)) | (go_at_call 23; refine (R1.out _).mono ?_; rintro e w1 ⟨rfl, hb1⟩) | (go_at_call 12; with_reducible first | (refine (L1.out _).mono ?_; rintro e w' ⟨rfl, rfl⟩) | (refine (L2.out _).mono ?_; rintro e w' ⟨rfl, rfl⟩) | (refine (L3.out _).mono ?_; rintro e w' ⟨rfl, rfl⟩) | (refine (L4.out _).mono ?_; rintro e w' ⟨rfl, rfl⟩)))
      all_goals go_ret
      all_goals exact ⟨rfl, by repeat (first | exact Below.refl _ _ | apply below_alloc | refine below_via (by assumption) ?_)⟩
theorem walk (a0 : Int) (a1 : Int) (a2 : Int) (w0 : (Lit.int .u64 a0).wf = true) (w1 : (Lit.int .u64 a1).wf = true) (w2 : (Lit.int .u64 a2).wf = true) (w : World) :
    Calls Try.prog 5 #[.int .u64 a0, .int .u64 a1, .int .u64 a2] w fun e w' => e = .returned (.bool true) ∧ Below w.heap.size w w' := by
  have ha := wfU64 w0
  have hb := wfU64 w1
  have hc := wfU64 w2
  have A1 := fun w => AddC a0 a1 ha hb w
  have A2 := fun w => AddC a1 a0 hb ha w
  have M1 := fun w => Mul_calls a0 a1 w ha hb
  have M2 := fun w => Mul_calls a1 a0 w hb ha
  rw [add_comm' hb ha] at A2
  rw [mul_comm' hb ha] at M2
  have z0 : U64 0 := zero_u64
  cases hn : isNaN a0
  · have hone : U64 4607182418800017408 := ⟨by decide, by decide⟩
    have D1 := fun w => DivC a0 4607182418800017408 ha hone w
    rw [div_one ha hn] at D1
    have hna := neg_u64 ha
    have N2 := fun w => Neg_calls (negG a0) w
    rw [neg_neg' ha hn] at N2
    have hu : U64 (SubG 0 a0) := add_u64 z0 hna
    have S2 := fun w => SubC 0 (SubG 0 a0) z0 hu w
    rw [sub_sub' ha hn] at S2
    refine walkNum a0 a1 a2 _ _ _ _ _ (SubG a0 a0) (RemG a0 a0) (AddG a1 a2) (AddG a0 a2) (MulG a1 a2) (MulG a0 a2) (EqualG a0 0) (EqualG (RemG a0 a0) 0) (isInf a0) (LessG a0 a1) (isNaN a2) (isInf a2) (LessG (AddG a1 a2) (AddG a0 a2)) (LessG 0 a2) (LessG (MulG a1 a2) (MulG a0 a2)) w hn rfl
      (fun hi => sub_self' ha hn hi) (fun hi he => rem_self ha hn hi ?_) (fun hl h1 h2 => add_mono ha hb hc hl h1 h2) (fun hl h1 h2 h3 => mul_mono ha hb hc hl h2 h3)
      A1 A2 M1 M2 (fun w => Neg_calls a0 w) N2 D1 (fun w => SubC 0 a0 z0 ha w) S2 (fun w => AddC a0 0 ha z0 w) (fun w => isInf_calls a0 w) (fun w => isInf_calls a2 w)
      (fun w => SubC a0 a0 ha ha w) (fun w => Equal_calls a0 0 w) (fun w => RemC a0 a0 ha ha w) (fun w => Equal_calls _ 0 w) (fun w => Less_calls a0 a1 w)
      (fun w => AddC a1 a2 hb hc w) (fun w => AddC a0 a2 ha hc w) (fun w => Less_calls _ _ w) (fun w => Less_calls 0 a2 w) (fun w => Mul_calls a1 a2 w hb hc) (fun w => Mul_calls a0 a2 w ha hc) (fun w => Less_calls _ _ w)
    have e0 : isZ 0 = true := by decide +kernel
    have n0 : isNaN 0 = false := by decide +kernel
    cases hz : isZ a0
    · rfl
    · simp [EqualG, hn, n0, e0, hz] at he
  · have R1 := fun w => RemC a1 a0 hb ha w
    rw [rem_nan hn] at R1
    have E1 := fun w => Equal_calls a0 a0 w
    rw [equal_nan hn] at E1
    rw [add_nan hn] at A1 A2
    exact walkNaN a0 a1 a2 _ _ false w C_isNaN hn C_isNaN A1 A2 M1 M2 R1 E1
set_option maxRecDepth 100000 in
theorem lifted (os : Os) (started : os.Started) (H : Type) (enc : TypeId × Value → H) :
    ReturnsInHanded {} Try.checked os 5 .any (Rows.softLawsSpec.pre6 enc Try.prog Try.f5 Rows.softLawsRow.domain false) (Rows.softLawsSpec.post enc Try.prog Try.f5 false true false false) := by
  refine returnsInHanded_of_change (C := Try.checked) own started (by kernel_rfl) Try.func5
    (ChangeSpec.witness6 (enc := enc) (C := Try.checked) false ⟨#[], #[.int .u64 0, .int .u64 0, .int .u64 0], []⟩ 8 (by kernel_rfl) (by kernel_rfl) (by kernel_rfl) (by kernel_rfl)) ?_
  intro W base args ds gs before hval0 hW hcnd _
  have hval : ∀ (j : Nat) t v, Try.f5.params[j]? = some t → args[j]? = some v → Value.okWide Try.prog W .any base t v := hval0
  have hW' := hW
  obtain ⟨p, q, hA0, hV, rfl, hfz, hnd⟩ := hW
  have hA : DataW.TrodAll enc Try.prog W 0 (fun _ => true) true Try.f5.params.toList args.toList ds p := hA0
  rw [Try.params5] at hA hval
  obtain ⟨v0, vs0, d0, ds0, p0, q0, hargs, rfl, rfl, h0, r0⟩ := trodAll_cons hA
  obtain ⟨v1, vs1, d1, ds1, p1, q1, rfl, rfl, rfl, h1, r1⟩ := trodAll_cons r0
  obtain ⟨v2, vs2, d2, ds2, p2, q2, rfl, rfl, rfl, h2, r2⟩ := trodAll_cons r1
  obtain ⟨rfl, rfl, rfl⟩ := trodAll_nil r2
  obtain rfl : args = #[v0, v1, v2] := by cases args; simp_all
  obtain ⟨rfl, rfl⟩ := trodVars_none hV
  obtain ⟨a0, rfl, rfl, rfl, w0⟩ := open_int Try.underlying22 (hval 0 22 v0 rfl rfl) h0
  obtain ⟨a1, rfl, rfl, rfl, w1⟩ := open_int Try.underlying22 (hval 1 22 v1 rfl rfl) h1
  obtain ⟨a2, rfl, rfl, rfl, w2⟩ := open_int Try.underlying22 (hval 2 22 v2 rfl rfl) h2
  clear hA0 hval0
  simp only [List.append_nil] at hW'
  refine (walk a0 a1 a2 w0 w1 w2 W).mono fun e W' ⟨he, bel⟩ => ?_
  subst he
  exact ⟨_, rfl, _, _, _, [], _, [], hW', (trodAll_cons_mk (shut_bool Try.underlying4 _) trodAll_mk0), (trodAll_cons_mk (shut_int Try.underlying22 w0) (trodAll_cons_mk (shut_int Try.underlying22 w1) (trodAll_cons_mk (shut_int Try.underlying22 w2) trodAll_mk0))), rfl, bel.frame _, fun h => by cases h⟩

set_option maxHeartbeats 0 in
theorem over : Rows.softLawsRow.holds Try.pinned (OpenSpec.ofChange Rows.softLawsSpec) :=
  OpenClaim.holds_of_wide 5 Try.f5 rfl rfl rfl rfl rfl rfl rfl ⟨rfl, rfl, rfl, rfl, rfl⟩ rfl rfl rfl rfl rfl (by as_aux_lemma => kernel_rfl) Try.func5 (by as_aux_lemma => kernel_rfl)
    (of_decide_eq_true (by as_aux_lemma => kernel_rfl)) (by as_aux_lemma => unfold Func.isWrapper; first | (rw [if_pos (by decide +kernel)]; kernel_rfl) | (rw [if_neg (by decide +kernel)]; exact ⟨rfl, rfl⟩))
    (fun os started H enc _ => lifted os started H enc)

theorem proved : Rows.SoftLawsSaid :=
  over
#print axioms proved
end Go.Proofs.Ytmemefjhefmfhaa.softLaws
namespace Go.Proofs.Ytmemefjhefmfhaa
theorem softLaws_holds : Rows.SoftLawsSaid := softLaws.proved
end Go.Proofs.Ytmemefjhefmfhaa
