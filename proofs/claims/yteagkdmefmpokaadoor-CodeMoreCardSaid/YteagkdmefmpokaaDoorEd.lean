/- Code: handlers and captures that may not be; ContainsFunc walked. -/
import Derived.Test.YteagkdmefmpokaaDoorEc
import Derived.Lib.SliceRun
namespace Go.Proofs.YteagkdmefmpokaaDoor
open Go.RowKit Go
set_option linter.unusedVariables false
set_option linter.unusedSimpArgs false
def Tr.v (t : Tr) : Value := .agg #[.int .i64 t.x, .int .i64 t.y, .int .i64 t.z]
def Cp.v (t : Cp) : Value := .agg #[.bool t.f, .int .i64 t.i]
/-- may a handler be? -/
def okH (m : Nat) (t : Tr) : Bool := within t.x m && (decide (t.x < t.y) && (decide (t.y ≤ m) && within t.z m))
/-- may a capture be, of a maker with so many registers and captures? -/
def okP (re : Int) (np : Nat) (t : Cp) : Bool := if t.f then within t.i np else within t.i re
set_option maxRecDepth 100000 in
set_option maxHeartbeats 4000000 in
theorem hbad_calls (w : World) (g : Nat) (h : Hd) (hb : Blk w g 36 h.b) (t : Tr) :
    Calls Tryd.prog 30 #[t.v, .pointer (some ⟨g, 0, none⟩)] w fun r w' => r = .returned (.bool (!okH h.nc t)) ∧ Below w.heap.size w w' := by
  have HB := Lib.hid (below_new w (.cells #[.int .i64 t.x, .int .i64 t.y, .int .i64 t.z] 49))
  have KW := Lib.hid (fun (W : World) (a m : Int) (b : Bool) (e : within a m = b) => by have := within_calls W a m; rw [e] at this; exact this)
  have c4 : w.cell? ⟨g, 4, none⟩ = some (.slice h.Ac h.nc h.cc) := (hb.cell 4).trans rfl
  have hlt := hb.lt
  have n0 : w.heap.size ≠ g := by omega
  unfold Tr.v okH
  clear hb
  cases h1 : within t.x h.nc
  · have K1 := Lib.hid (fun W => KW.out W t.x h.nc _ h1)
    clear h1 KW
    rw [Bool.false_and, Bool.not_false]
    go_enter Tryd.func30, Tryd.ntmps30
    go_wp2_with (go_at_call 24; (with_reducible refine (K1.out _).mono ?_); rintro r w' ⟨rfl, rfl⟩)
    go_ret
    exact ⟨rfl, HB.out⟩
  · have K1 := Lib.hid (fun W => KW.out W t.x h.nc _ h1)
    clear h1
    rw [Bool.true_and]
    by_cases h2 : t.x < t.y
    · rw [show decide (t.x < t.y) = true by simpa using h2, Bool.true_and]
      by_cases h3 : t.y ≤ h.nc
      · rw [show decide (t.y ≤ h.nc) = true by simpa using h3, Bool.true_and]
        have K2 := Lib.hid (fun W => KW.out W t.z h.nc _ rfl)
        generalize within t.z h.nc = z at *
        clear KW
        go_enter Tryd.func30, Tryd.ntmps30
        go_wp2_with (first | (go_at_call 24; (with_reducible refine (K1.out _).mono ?_); rintro r w' ⟨rfl, rfl⟩) | (go_at_call 24; (with_reducible refine (K2.out _).mono ?_); rintro r w' ⟨rfl, rfl⟩))
        go_ret
        exact ⟨ret_bool (by rw [show decide (t.y ≤ t.x) = false by simp; omega, show decide ((h.nc : Int) < t.y) = false by simp; omega]; rfl), HB.out⟩
      · rw [show decide (t.y ≤ h.nc) = false by simpa using h3, Bool.false_and, Bool.not_false]
        clear KW
        go_enter Tryd.func30, Tryd.ntmps30
        go_wp2_with (go_at_call 24; (with_reducible refine (K1.out _).mono ?_); rintro r w' ⟨rfl, rfl⟩)
        go_ret
        exact ⟨rfl, HB.out⟩
    · rw [show decide (t.x < t.y) = false by simpa using h2, Bool.false_and, Bool.not_false]
      clear KW
      go_enter Tryd.func30, Tryd.ntmps30
      go_wp2_with (go_at_call 24; (with_reducible refine (K1.out _).mono ?_); rintro r w' ⟨rfl, rfl⟩)
      go_ret
      exact ⟨rfl, HB.out⟩
set_option maxRecDepth 100000 in
set_option maxHeartbeats 4000000 in
theorem pbad_calls (w : World) (g : Nat) (h : Hd) (hb : Blk w g 36 h.b) (t : Cp) :
    Calls Tryd.prog 32 #[t.v, .pointer (some ⟨g, 0, none⟩)] w fun r w' => r = .returned (.bool (!okP h.re h.np t)) ∧ Below w.heap.size w w' := by
  have HB := Lib.hid (below_new w (.cells #[.bool t.f, .int .i64 t.i] 52))
  have KW := Lib.hid (fun (W : World) (a m : Int) (b : Bool) (e : within a m = b) => by have := within_calls W a m; rw [e] at this; exact this)
  have c2 : w.cell? ⟨g, 2, none⟩ = some (.int .i64 h.re) := (hb.cell 2).trans rfl
  have c6 : w.cell? ⟨g, 6, none⟩ = some (.slice h.Ap h.np h.cp) := (hb.cell 6).trans rfl
  have hlt := hb.lt
  have n0 : w.heap.size ≠ g := by omega
  unfold Cp.v okP
  clear hb
  obtain ⟨f, i⟩ := t
  simp only at HB ⊢
  cases f
  · rw [if_neg (by simp)]
    have K1 := Lib.hid (fun W => KW.out W i h.re _ rfl)
    generalize within i h.re = z at *
    cases z
    all_goals
      go_enter Tryd.func32, Tryd.ntmps32
      go_wp2_with (go_at_call 24; (with_reducible refine (K1.out _).mono ?_); rintro r w' ⟨rfl, rfl⟩)
      go_ret
      exact ⟨rfl, HB.out⟩
  · rw [if_pos rfl]
    have K1 := Lib.hid (fun W => KW.out W i h.np _ rfl)
    generalize within i h.np = z at *
    cases z
    all_goals
      go_enter Tryd.func32, Tryd.ntmps32
      go_wp2_with (go_at_call 24; (with_reducible refine (K1.out _).mono ?_); rintro r w' ⟨rfl, rfl⟩)
      go_ret
      exact ⟨rfl, HB.out⟩
/-- the place of the first of which something is true. -/
def idxA {α : Type} (p : α → Bool) : List α → Nat → Int
  | [], _ => -1
  | e :: L, k => if p e then (k : Int) else idxA p L (k + 1)
theorem idxA_any {α : Type} (p : α → Bool) : ∀ (L : List α) (k : Nat), decide (0 ≤ idxA p L k) = L.any p := by
  intro L
  induction L with
  | nil => intro k; rfl
  | cons x L ih =>
    intro k
    rw [idxA, List.any_cons]
    cases h : p x
    · rw [if_neg (by simp), ih, Bool.false_or]
    · rw [if_pos rfl]; simp
set_option maxRecDepth 100000 in
set_option maxHeartbeats 4000000 in
theorem hindex_calls (W0 : World) (g : Nat) (p : Tr → Bool) (HD : ∀ (w : World) (x : Tr), Below W0.heap.size W0 w → Calls Tryd.prog 30 #[x.v, .pointer (some ⟨g, 0, none⟩)] w fun r w' => r = .returned (.bool (p x)) ∧ Below w.heap.size w w') (w : World) (hb : Below W0.heap.size W0 w) (A : Option Addr) (m c : Nat) (L : List Tr) (hr : Reads w w.heap.size 3 A m (tf L)) (hm : m ≤ 140737488351232) :
    Calls Tryd.prog 37 #[.slice A m c, .func (.func 30) #[] #[.pointer (some ⟨g, 0, none⟩)]] w fun r w' => r = .returned (.int .i64 (idxA p L 0)) ∧ Below w.heap.size w w' := by
  have hl := reads_len3 hr
  have HDh := Lib.hid HD
  have HB := Lib.hid hb
  have HR := Lib.hid hr
  have HL := Lib.hid hl
  clear HD hb hr hl
  go_enter Tryd.func37, Tryd.ntmps37
  go_wp2
  go_loopg [8] m (fun f i wr => ∃ k : Nat, i = .int .i64 k ∧ k + f = m ∧ idxA p L 0 = idxA p (L.drop k) k ∧ Below w.heap.size w wr)
  case atStart => exact ⟨0, rfl, by omega, rfl, Below.refl _ _⟩
  case round =>
    obtain ⟨k, rfl, hf, he, HBR⟩ := hrel
    have HE := Lib.hid he
    have HBRh := Lib.hid HBR
    clear he
    by_cases hk : k < m
    · obtain ⟨e, hx⟩ : ∃ e, L[k]? = some e := ⟨_, List.getElem?_eq_getElem (by have := HL.out; omega)⟩
      have hd := drop_at hx
      obtain ⟨b, off, rfl, hbl, ⟨c0, c1, c2⟩⟩ := reads_at3 (HR.out.below HBR) hx
      have hk' : (k : Int) < m := by omega
      have HDr := Lib.hid hd
      obtain ⟨f', hf'⟩ : ∃ f', gk = f' + 1 := ⟨gk - 1, by omega⟩
      have HF' := Lib.hid hf'
      have HF := Lib.hid hf
      have K := HDh.out wr e (HB.out.trans (HBR.mono HB.out.size))
      unfold Tr.v at K
      have HP := Lib.hid (show idxA p L 0 = if p e then (k : Int) else idxA p (L.drop (k + 1)) (k + 1) by rw [HE.out, hd, idxA])
      clear hx hd hf hf' HBR
      cases hp : p e
      · rw [hp] at K HP
        have K := Lib.hid K
        clear hp
        go_wp2_with (first | (go_at_call 30; (with_reducible refine K.out.mono ?_); rintro r w1 ⟨rfl, hb1⟩))
        go_roundg f'
        case measure => have := HF'.out; omega
        case rel => exact ⟨k + 1, by simp, by have := HF'.out; have := HF.out; omega, by rw [HP.out]; rfl, HBRh.out.trans (hb1.mono HBRh.out.size)⟩
      · rw [hp] at K HP
        have K := Lib.hid K
        clear hp
        go_wp2_with (first | (go_at_call 30; (with_reducible refine K.out.mono ?_); rintro r w1 ⟨rfl, hb1⟩))
        go_ret
        exact ⟨by rw [HP.out]; rfl, HBRh.out.trans (hb1.mono HBRh.out.size)⟩
    · have hk' : ¬ (k : Int) < m := by omega
      go_wp2
      go_ret
      exact ⟨by rw [HE.out, List.drop_of_length_le (by have := HL.out; omega)]; rfl, HBRh.out⟩
set_option maxRecDepth 100000 in
theorem hcontains_calls (w : World) (g : Nat) (p : Tr → Bool) (HD : ∀ (w' : World) (x : Tr), Below w.heap.size w w' → Calls Tryd.prog 30 #[x.v, .pointer (some ⟨g, 0, none⟩)] w' fun r w2 => r = .returned (.bool (p x)) ∧ Below w'.heap.size w' w2) (A : Option Addr) (m c : Nat) (L : List Tr) (hr : Reads w w.heap.size 3 A m (tf L)) (hm : m ≤ 140737488351232) :
    Calls Tryd.prog 31 #[.slice A m c, .func (.func 30) #[] #[.pointer (some ⟨g, 0, none⟩)]] w fun r w' => r = .returned (.bool (L.any p)) ∧ Below w.heap.size w w' := by
  have K := hindex_calls w g p HD w (Below.refl _ _) A m c L hr hm
  rw [← idxA_any p L 0]
  generalize idxA p L 0 = i at *
  replace K := Lib.hid K
  clear HD hr
  go_enter Tryd.func31, Tryd.ntmps31
  go_wp2_with (first | (go_at_call 37; (with_reducible refine K.out.mono ?_); rintro r w1 ⟨rfl, hb1⟩))
  go_ret
  exact ⟨rfl, hb1⟩
set_option maxRecDepth 100000 in
set_option maxHeartbeats 4000000 in
theorem pindex_calls (W0 : World) (g : Nat) (p : Cp → Bool) (HD : ∀ (w : World) (x : Cp), Below W0.heap.size W0 w → Calls Tryd.prog 32 #[x.v, .pointer (some ⟨g, 0, none⟩)] w fun r w' => r = .returned (.bool (p x)) ∧ Below w.heap.size w w') (w : World) (hb : Below W0.heap.size W0 w) (A : Option Addr) (m c : Nat) (L : List Cp) (hr : Reads w w.heap.size 2 A m (pf L)) (hm : m ≤ 140737488351232) :
    Calls Tryd.prog 38 #[.slice A m c, .func (.func 32) #[] #[.pointer (some ⟨g, 0, none⟩)]] w fun r w' => r = .returned (.int .i64 (idxA p L 0)) ∧ Below w.heap.size w w' := by
  have hl := reads_lenP hr
  have HDh := Lib.hid HD
  have HB := Lib.hid hb
  have HR := Lib.hid hr
  have HL := Lib.hid hl
  clear HD hb hr hl
  go_enter Tryd.func38, Tryd.ntmps38
  go_wp2
  go_loopg [8] m (fun f i wr => ∃ k : Nat, i = .int .i64 k ∧ k + f = m ∧ idxA p L 0 = idxA p (L.drop k) k ∧ Below w.heap.size w wr)
  case atStart => exact ⟨0, rfl, by omega, rfl, Below.refl _ _⟩
  case round =>
    obtain ⟨k, rfl, hf, he, HBR⟩ := hrel
    have HE := Lib.hid he
    have HBRh := Lib.hid HBR
    clear he
    by_cases hk : k < m
    · obtain ⟨e, hx⟩ : ∃ e, L[k]? = some e := ⟨_, List.getElem?_eq_getElem (by have := HL.out; omega)⟩
      have hd := drop_at hx
      obtain ⟨b, off, rfl, hbl, ⟨c0, c1⟩⟩ := reads_atP (HR.out.below HBR) hx
      have hk' : (k : Int) < m := by omega
      have HDr := Lib.hid hd
      obtain ⟨f', hf'⟩ : ∃ f', gk = f' + 1 := ⟨gk - 1, by omega⟩
      have HF' := Lib.hid hf'
      have HF := Lib.hid hf
      have K := HDh.out wr e (HB.out.trans (HBR.mono HB.out.size))
      unfold Cp.v at K
      have HP := Lib.hid (show idxA p L 0 = if p e then (k : Int) else idxA p (L.drop (k + 1)) (k + 1) by rw [HE.out, hd, idxA])
      clear hx hd hf hf' HBR
      cases hp : p e
      · rw [hp] at K HP
        have K := Lib.hid K
        clear hp
        go_wp2_with (first | (go_at_call 32; (with_reducible refine K.out.mono ?_); rintro r w1 ⟨rfl, hb1⟩))
        go_roundg f'
        case measure => have := HF'.out; omega
        case rel => exact ⟨k + 1, by simp, by have := HF'.out; have := HF.out; omega, by rw [HP.out]; rfl, HBRh.out.trans (hb1.mono HBRh.out.size)⟩
      · rw [hp] at K HP
        have K := Lib.hid K
        clear hp
        go_wp2_with (first | (go_at_call 32; (with_reducible refine K.out.mono ?_); rintro r w1 ⟨rfl, hb1⟩))
        go_ret
        exact ⟨by rw [HP.out]; rfl, HBRh.out.trans (hb1.mono HBRh.out.size)⟩
    · have hk' : ¬ (k : Int) < m := by omega
      go_wp2
      go_ret
      exact ⟨by rw [HE.out, List.drop_of_length_le (by have := HL.out; omega)]; rfl, HBRh.out⟩
set_option maxRecDepth 100000 in
theorem pcontains_calls (w : World) (g : Nat) (p : Cp → Bool) (HD : ∀ (w' : World) (x : Cp), Below w.heap.size w w' → Calls Tryd.prog 32 #[x.v, .pointer (some ⟨g, 0, none⟩)] w' fun r w2 => r = .returned (.bool (p x)) ∧ Below w'.heap.size w' w2) (A : Option Addr) (m c : Nat) (L : List Cp) (hr : Reads w w.heap.size 2 A m (pf L)) (hm : m ≤ 140737488351232) :
    Calls Tryd.prog 33 #[.slice A m c, .func (.func 32) #[] #[.pointer (some ⟨g, 0, none⟩)]] w fun r w' => r = .returned (.bool (L.any p)) ∧ Below w.heap.size w w' := by
  have K := pindex_calls w g p HD w (Below.refl _ _) A m c L hr hm
  rw [← idxA_any p L 0]
  generalize idxA p L 0 = i at *
  replace K := Lib.hid K
  clear HD hr
  go_enter Tryd.func33, Tryd.ntmps33
  go_wp2_with (first | (go_at_call 38; (with_reducible refine K.out.mono ?_); rintro r w1 ⟨rfl, hb1⟩))
  go_ret
  exact ⟨rfl, hb1⟩
end Go.Proofs.YteagkdmefmpokaaDoor
