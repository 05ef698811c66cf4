/- Code: a function with its constants and captures, as it is read; operands. -/
import Derived.Test.YteagkdmefmpokaaDoorEa
namespace Go.Proofs.YteagkdmefmpokaaDoor
open Go.RowKit Go
set_option linter.unusedVariables false
set_option linter.unusedSimpArgs false
/-- a constant: whether it is a text, its bits, its text. -/
structure Cn where
  t : Bool
  n : Int
  s : ByteArray
/-- a capture: whether it is free, its index. -/
structure Cp where
  f : Bool
  i : Int
def kf : List Cn → List Value
  | [] => []
  | e :: L => .bool e.t :: .int .u64 e.n :: .string e.s :: kf L
def pf : List Cp → List Value
  | [] => []
  | e :: L => .bool e.f :: .int .i64 e.i :: pf L
theorem kf_length (L : List Cn) : (kf L).length = L.length * 3 := by
  induction L with
  | nil => rfl
  | cons x L ih => simp only [kf, List.length_cons, ih]; omega
theorem pf_length (L : List Cp) : (pf L).length = L.length * 2 := by
  induction L with
  | nil => rfl
  | cons x L ih => simp only [pf, List.length_cons, ih]; omega
theorem kf_append (L M : List Cn) : kf (L ++ M) = kf L ++ kf M := by
  induction L with
  | nil => rfl
  | cons x L ih => simp only [List.cons_append, kf, ih]
theorem kf_one (L : List Cn) : ∀ u ∈ kf L, u.oneCell' = true := by
  induction L with
  | nil => intro u h; cases h
  | cons x L ih =>
    intro u h
    simp only [kf, List.mem_cons] at h
    rcases h with rfl | rfl | rfl | h
    · rfl
    · rfl
    · rfl
    · exact ih u h
theorem kf_get {L : List Cn} {i : Nat} {e : Cn} (h : L[i]? = some e) : (kf L)[i * 3]? = some (.bool e.t) ∧ (kf L)[i * 3 + 1]? = some (.int .u64 e.n) ∧ (kf L)[i * 3 + 2]? = some (.string e.s) := by
  induction L generalizing i with
  | nil => simp at h
  | cons x L ih =>
    cases i with
    | zero => simp at h; subst h; exact ⟨rfl, rfl, rfl⟩
    | succ i =>
      obtain ⟨h1, h2, h3⟩ := ih (by simpa using h)
      rw [show (i + 1) * 3 = i * 3 + 1 + 1 + 1 by omega]
      exact ⟨h1, by rw [show i * 3 + 1 + 1 + 1 + 1 = (i * 3 + 1) + 1 + 1 + 1 by omega]; exact h2, by rw [show i * 3 + 1 + 1 + 1 + 2 = (i * 3 + 2) + 1 + 1 + 1 by omega]; exact h3⟩
theorem pf_get {L : List Cp} {i : Nat} {e : Cp} (h : L[i]? = some e) : (pf L)[i * 2]? = some (.bool e.f) ∧ (pf L)[i * 2 + 1]? = some (.int .i64 e.i) := by
  induction L generalizing i with
  | nil => simp at h
  | cons x L ih =>
    cases i with
    | zero => simp at h; subst h; exact ⟨rfl, rfl⟩
    | succ i =>
      obtain ⟨h1, h2⟩ := ih (by simpa using h)
      rw [show (i + 1) * 2 = i * 2 + 1 + 1 by omega]
      exact ⟨h1, by rw [show i * 2 + 1 + 1 + 1 = (i * 2 + 1) + 1 + 1 by omega]; exact h2⟩
/-- a constant of a slice, as it is read. -/
structure AtK (w : World) (b off i : Nat) (e : Cn) : Prop where
  t : w.cell? ⟨b, off + i * 3, none⟩ = some (.bool e.t)
  n : w.cell? ⟨b, off + i * 3 + 1, none⟩ = some (.int .u64 e.n)
  s : w.cell? ⟨b, off + i * 3 + 2, none⟩ = some (.string e.s)
structure AtP (w : World) (b off i : Nat) (e : Cp) : Prop where
  f : w.cell? ⟨b, off + i * 2, none⟩ = some (.bool e.f)
  i : w.cell? ⟨b, off + i * 2 + 1, none⟩ = some (.int .i64 e.i)
theorem reads_atK {w : World} {B n : Nat} {A : Option Addr} {L : List Cn} (h : Reads w B 3 A n (kf L)) {i : Nat} {e : Cn} (hi : L[i]? = some e) : ∃ b off, A = some ⟨b, off, none⟩ ∧ b < B ∧ AtK w b off i e := by
  have hl := h.1
  rw [kf_length] at hl
  have hlt : i < L.length := (List.getElem?_eq_some_iff.1 hi).1
  obtain ⟨ad, rfl, hb, hc⟩ := h.2 (by omega)
  obtain ⟨g1, g2, g3⟩ := kf_get hi
  obtain ⟨b, off, sp⟩ := ad
  have h0 : 0 < (kf L).length := by rw [kf_length]; omega
  have hsp : sp = none := by simpa [Addr.add] using World.cell?_spot (hc 0 _ (List.getElem?_eq_getElem h0))
  subst hsp
  exact ⟨b, off, rfl, hb, add_at b off _ w (hc _ _ g1), by rw [Nat.add_assoc]; exact add_at b off _ w (hc _ _ g2), by rw [Nat.add_assoc]; exact add_at b off _ w (hc _ _ g3)⟩
theorem reads_atP {w : World} {B n : Nat} {A : Option Addr} {L : List Cp} (h : Reads w B 2 A n (pf L)) {i : Nat} {e : Cp} (hi : L[i]? = some e) : ∃ b off, A = some ⟨b, off, none⟩ ∧ b < B ∧ AtP w b off i e := by
  have hl := h.1
  rw [pf_length] at hl
  have hlt : i < L.length := (List.getElem?_eq_some_iff.1 hi).1
  obtain ⟨ad, rfl, hb, hc⟩ := h.2 (by omega)
  obtain ⟨g1, g2⟩ := pf_get hi
  obtain ⟨b, off, sp⟩ := ad
  have h0 : 0 < (pf L).length := by rw [pf_length]; omega
  have hsp : sp = none := by simpa [Addr.add] using World.cell?_spot (hc 0 _ (List.getElem?_eq_getElem h0))
  subst hsp
  exact ⟨b, off, rfl, hb, add_at b off _ w (hc _ _ g1), by rw [Nat.add_assoc]; exact add_at b off _ w (hc _ _ g2)⟩
theorem reads_lenK {w : World} {B n : Nat} {A : Option Addr} {L : List Cn} (h : Reads w B 3 A n (kf L)) : L.length = n := by
  have hl := h.1
  rw [kf_length] at hl
  omega
theorem reads_lenP {w : World} {B n : Nat} {A : Option Addr} {L : List Cp} (h : Reads w B 2 A n (pf L)) : L.length = n := by
  have hl := h.1
  rw [pf_length] at hl
  omega
/-- a function: its header, its code, its handlers, its constants, its captures. -/
structure Fn where
  hd : Hd
  C : List En
  T : List Tr
  K : List Cn
  P : List Cp
/-- .. as it is read. -/
structure Fn.Is (F : Fn) (w : World) : Prop where
  his : F.hd.Is w F.C F.T
  con : Reads w w.heap.size 3 F.hd.Ak F.hd.nk (kf F.K)
  cap : Reads w w.heap.size 2 F.hd.Ap F.hd.np (pf F.P)
  nk : F.hd.nk ≤ 140737488351232
  np : F.hd.np ≤ 140737488351232
theorem Fn.Is.later {F : Fn} {w w' : World} (i : F.Is w) (b : Below w.heap.size w w') : F.Is w' :=
  ⟨i.his.later b, (i.con.below b).more b.size, (i.cap.below b).more b.size, i.nk, i.np⟩
/-- is the constant at a place a text? -/
def txt (F : Fn) (x : Int) : Bool := ((F.K[x.toNat]?).map Cn.t).getD false
/-- may an operand be? -/
def opd (n : Nat) (F : Fn) (b kind x : Int) : Bool :=
  if kind = 114 then within x F.hd.re else if kind = 119 then within x F.hd.re else if kind = 107 then within x F.hd.nk else if kind = 120 then within x F.hd.nk && txt F x
  else if kind = 115 then within x 5 else if kind = 102 then within x n && decide (0 < x) else if kind = 99 then within x F.hd.np else if kind = 98 then within x 14
  else if kind = 116 then within x F.hd.nc else if kind = 104 then within x 2 else if kind = 110 then decide (0 ≤ x) && within (wrap64 (b + 1 + x)) F.hd.re else (x == 0)
theorem opd_w (n : Nat) (F : Fn) (b x : Int) : opd n F b 119 x = within x F.hd.re := rfl
theorem opd_r (n : Nat) (F : Fn) (b x : Int) : opd n F b 114 x = within x F.hd.re := rfl
theorem opd_k (n : Nat) (F : Fn) (b x : Int) : opd n F b 107 x = within x F.hd.nk := rfl
theorem opd_x (n : Nat) (F : Fn) (b x : Int) : opd n F b 120 x = (within x F.hd.nk && txt F x) := rfl
theorem opd_s (n : Nat) (F : Fn) (b x : Int) : opd n F b 115 x = within x 5 := rfl
theorem opd_f (n : Nat) (F : Fn) (b x : Int) : opd n F b 102 x = (within x n && decide (0 < x)) := rfl
theorem opd_c (n : Nat) (F : Fn) (b x : Int) : opd n F b 99 x = within x F.hd.np := rfl
theorem opd_b (n : Nat) (F : Fn) (b x : Int) : opd n F b 98 x = within x 14 := rfl
theorem opd_t (n : Nat) (F : Fn) (b x : Int) : opd n F b 116 x = within x F.hd.nc := rfl
theorem opd_h (n : Nat) (F : Fn) (b x : Int) : opd n F b 104 x = within x 2 := rfl
theorem opd_n (n : Nat) (F : Fn) (b x : Int) : opd n F b 110 x = (decide (0 ≤ x) && within (wrap64 (b + 1 + x)) F.hd.re) := rfl
theorem opd_0 (n : Nat) (F : Fn) (b x : Int) : opd n F b 45 x = (x == 0) := rfl
theorem within_true {x m : Int} (h : within x m = true) : 0 ≤ x ∧ x < m := by simpa [within] using h
theorem within_false {x m : Int} (h : within x m = false) : x < 0 ∨ m ≤ x := by
  simp only [within, Bool.and_eq_false_iff, decide_eq_false_iff_not] at h; omega
/-- the letters that there are. -/
def Letter (k : Int) : Prop := k = 114 ∨ k = 119 ∨ k = 107 ∨ k = 120 ∨ k = 115 ∨ k = 102 ∨ k = 99 ∨ k = 98 ∨ k = 116 ∨ k = 104 ∨ k = 110 ∨ k = 45
/-- a program, as a value. -/
abbrev pv (A : Option Addr) (n c : Nat) : Value := .agg #[.slice A n c]
set_option maxRecDepth 100000 in
set_option maxHeartbeats 4000000 in
theorem operand_calls (w : World) (A : Option Addr) (n c : Nat) (F : Fn) (hF : F.Is w) (e : En) (kind x : Int) (hl : Letter kind) (hx1 : x ≤ 9223372036854775807) (hb : kind = 110 → 0 ≤ e.o ∧ e.o < 400) :
    Calls Tryd.prog 29 #[pv A n c, F.hd.v, e.v, .int .u8 kind, .int .i64 x] w fun r w' => r = .returned (.bool (opd n F e.o kind x)) ∧ Below w.heap.size w w' := by
  have HB := Lib.hid (below_alloc (below_alloc (below_new w (.cells #[.slice A n c] 24)) (.cells F.hd.b 36)) (.cells #[.int .i64 e.s, .int .i64 e.h, .int .i64 e.o, .int .i64 e.c] 38))
  have KW := Lib.hid (fun (W : World) (a m : Int) => within_calls W a m)
  have hlk := reads_lenK hF.con
  have HR := Lib.hid (((hF.later (below_new w (.cells #[.slice A n c] 24))).later (below_new _ (.cells F.hd.b 36))).later (below_new _ (.cells #[.int .i64 e.s, .int .i64 e.h, .int .i64 e.o, .int .i64 e.c] 38))).con
  have HLK := Lib.hid hlk
  have HT := Lib.hid (fun y => show txt F y = ((F.K[y.toNat]?).map Cn.t).getD false from rfl)
  clear hF hlk
  unfold Hd.v En.v pv
  unfold Hd.b at HB HR
  rcases hl with rfl | rfl | rfl | rfl | rfl | rfl | rfl | rfl | rfl | rfl | rfl | rfl
  · rw [opd_r]; clear hb
    go_enter Tryd.func29, Tryd.ntmps29
    go_wp2_with (go_at_call 24; (with_reducible refine (KW.out _ _ _).mono ?_); rintro r w' ⟨rfl, rfl⟩)
    go_ret
    exact ⟨rfl, HB.out⟩
  · rw [opd_w]; clear hb
    go_enter Tryd.func29, Tryd.ntmps29
    go_wp2_with (go_at_call 24; (with_reducible refine (KW.out _ _ _).mono ?_); rintro r w' ⟨rfl, rfl⟩)
    go_ret
    exact ⟨rfl, HB.out⟩
  · rw [opd_k]; clear hb
    go_enter Tryd.func29, Tryd.ntmps29
    go_wp2_with (go_at_call 24; (with_reducible refine (KW.out _ _ _).mono ?_); rintro r w' ⟨rfl, rfl⟩)
    go_ret
    exact ⟨rfl, HB.out⟩
  · rw [opd_x]; clear hb
    cases hw : within x F.hd.nk
    · have KX := Lib.hid (fun (W : World) => by have := within_calls W x F.hd.nk; rw [hw] at this; exact this)
      clear KW hw
      rw [Bool.false_and]
      go_enter Tryd.func29, Tryd.ntmps29
      go_wp2_with (go_at_call 24; (with_reducible refine (KX.out _).mono ?_); rintro r w' ⟨rfl, rfl⟩)
      go_ret
      exact ⟨rfl, HB.out⟩
    · obtain ⟨g0, g1⟩ := within_true hw
      have KX := Lib.hid (fun (W : World) => by have := within_calls W x F.hd.nk; rw [hw] at this; exact this)
      obtain ⟨k, rfl⟩ : ∃ k : Nat, x = k := ⟨x.toNat, by omega⟩
      obtain ⟨y, hy⟩ : ∃ y, F.K[k]? = some y := ⟨_, List.getElem?_eq_getElem (by have := HLK.out; omega)⟩
      obtain ⟨b, off, hA, hbl, ⟨c0, c1, c2⟩⟩ := reads_atK HR.out hy
      have ht : txt F (k : Int) = y.t := by rw [HT.out]; simp [hy]
      rw [hA] at HB ⊢
      rw [ht, Bool.true_and]
      rw [hA] at c0
      clear KW hw hy ht c1 c2 HT HR hA
      go_enter Tryd.func29, Tryd.ntmps29
      go_wp2_with (go_at_call 24; (with_reducible refine (KX.out _).mono ?_); rintro r w' ⟨rfl, rfl⟩)
      go_ret
      exact ⟨rfl, HB.out⟩
  · rw [opd_s]; clear hb
    go_enter Tryd.func29, Tryd.ntmps29
    go_wp2_with (go_at_call 24; (with_reducible refine (KW.out _ _ _).mono ?_); rintro r w' ⟨rfl, rfl⟩)
    go_ret
    exact ⟨rfl, HB.out⟩
  · rw [opd_f]; clear hb
    cases hw : within x n
    · have KX := Lib.hid (fun (W : World) => by have := within_calls W x n; rw [hw] at this; exact this)
      clear KW hw
      rw [Bool.false_and]
      go_enter Tryd.func29, Tryd.ntmps29
      go_wp2_with (go_at_call 24; (with_reducible refine (KX.out _).mono ?_); rintro r w' ⟨rfl, rfl⟩)
      go_ret
      exact ⟨rfl, HB.out⟩
    · have KX := Lib.hid (fun (W : World) => by have := within_calls W x n; rw [hw] at this; exact this)
      clear KW hw
      rw [Bool.true_and]
      go_enter Tryd.func29, Tryd.ntmps29
      go_wp2_with (go_at_call 24; (with_reducible refine (KX.out _).mono ?_); rintro r w' ⟨rfl, rfl⟩)
      go_ret
      exact ⟨rfl, HB.out⟩
  · rw [opd_c]; clear hb
    go_enter Tryd.func29, Tryd.ntmps29
    go_wp2_with (go_at_call 24; (with_reducible refine (KW.out _ _ _).mono ?_); rintro r w' ⟨rfl, rfl⟩)
    go_ret
    exact ⟨rfl, HB.out⟩
  · rw [opd_b]; clear hb
    go_enter Tryd.func29, Tryd.ntmps29
    go_wp2_with (go_at_call 24; (with_reducible refine (KW.out _ _ _).mono ?_); rintro r w' ⟨rfl, rfl⟩)
    go_ret
    exact ⟨rfl, HB.out⟩
  · rw [opd_t]; clear hb
    go_enter Tryd.func29, Tryd.ntmps29
    go_wp2_with (go_at_call 24; (with_reducible refine (KW.out _ _ _).mono ?_); rintro r w' ⟨rfl, rfl⟩)
    go_ret
    exact ⟨rfl, HB.out⟩
  · rw [opd_h]; clear hb
    go_enter Tryd.func29, Tryd.ntmps29
    go_wp2_with (go_at_call 24; (with_reducible refine (KW.out _ _ _).mono ?_); rintro r w' ⟨rfl, rfl⟩)
    go_ret
    exact ⟨rfl, HB.out⟩
  · rw [opd_n]
    obtain ⟨b0, b1⟩ := hb rfl
    clear hb
    by_cases h0 : 0 ≤ x
    · have hd : decide (0 ≤ x) = true := by simpa using h0
      rw [hd, Bool.true_and]
      clear hd
      go_enter Tryd.func29, Tryd.ntmps29
      go_wp2_with (go_at_call 24; (with_reducible refine (KW.out _ _ _).mono ?_); rintro r w' ⟨rfl, rfl⟩)
      go_ret
      exact ⟨rfl, HB.out⟩
    · have hd : decide (0 ≤ x) = false := by simpa using h0
      rw [hd, Bool.false_and]
      clear hd
      go_enter Tryd.func29, Tryd.ntmps29
      go_wp2_with (go_at_call 24; (with_reducible refine (KW.out _ _ _).mono ?_); rintro r w' ⟨rfl, rfl⟩)
      go_ret
      exact ⟨rfl, HB.out⟩
  · rw [opd_0]; clear hb
    go_enter Tryd.func29, Tryd.ntmps29
    go_wp2_with (go_at_call 24; (with_reducible refine (KW.out _ _ _).mono ?_); rintro r w' ⟨rfl, rfl⟩)
    go_ret
    exact ⟨rfl, HB.out⟩
end Go.Proofs.YteagkdmefmpokaaDoor
