/- Fuse: Where; the laws' first look. -/
import Derived.Test.YtblkedhkkhppnaaDi
namespace Go.Proofs.Ytblkedhkkhppnaa
open Go.RowKit Go
set_option linter.unusedVariables false
set_option linter.unusedSimpArgs false
/-- does a place stand in a group? -/
def inG (x : Int) (e : Tr) : Bool := decide (e.x ≤ x) && decide (x - e.x < e.y)
set_option maxRecDepth 100000 in
theorem inG_calls (w : World) (g : Nat) (x : Int) (e : Tr) (h : Blk w g 3 #[.int .i64 x]) (h0 : 0 ≤ e.x) (hx : x ≤ 9223372036854775807) :
    Calls Try.prog 18 #[.agg #[.int .i64 e.x, .int .i64 e.y, .int .i64 e.z], .pointer (some ⟨g, 0, none⟩)] w fun r w' => r = .returned (.bool (inG x e)) ∧ Below w.heap.size w w' := by
  have c0 := one_cell h
  have hl := h.lt
  have hn : w.heap.size ≠ g := by omega
  have B := Lib.hid (below_new w (.cells #[.int .i64 e.x, .int .i64 e.y, .int .i64 e.z] 32))
  clear h
  by_cases h1 : e.x ≤ x
  · have hw : IntKind.i64.wrap (x - e.x) = x - e.x := IntWalk.i64_in _ (by omega)
    by_cases h2 : x - e.x < e.y
    · go_enter Try.func18, Try.ntmps18
      go_wp2
      go_ret
      exact ⟨ret_bool (by simp [inG, h1, h2]), B.out⟩
    · go_enter Try.func18, Try.ntmps18
      go_wp2
      go_ret
      exact ⟨ret_bool (by simp [inG, h1]; omega), B.out⟩
  · go_enter Try.func18, Try.ntmps18
    go_wp2
    go_ret
    exact ⟨ret_bool (by simp [inG]; omega), B.out⟩
/-- the first group in which a place stands. -/
def fnd3 (x : Int) : List Tr → Nat → Option (Nat × Tr)
  | [], _ => none
  | e :: L, k => if inG x e = true then some (k, e) else fnd3 x L (k + 1)
def idx3 : Option (Nat × Tr) → Int
  | none => -1
  | some (i, _) => i
def whr3 (x : Int) : Option (Nat × Tr) → Int × Int × Bool
  | none => (0, 0, false)
  | some (i, e) => (i, x - e.x, true)
theorem fnd3_some {x : Int} : ∀ {L : List Tr} {k i : Nat} {e : Tr}, fnd3 x L k = some (i, e) → k ≤ i ∧ L[i - k]? = some e ∧ inG x e = true := by
  intro L
  induction L with
  | nil => intro k i e h; simp [fnd3] at h
  | cons a L ih =>
    intro k i e h
    rw [fnd3] at h
    by_cases ha : inG x a = true
    · rw [if_pos ha] at h
      simp only [Option.some.injEq, Prod.mk.injEq] at h
      obtain ⟨rfl, rfl⟩ := h
      exact ⟨Nat.le_refl _, by simp, ha⟩
    · rw [if_neg ha] at h
      obtain ⟨h1, h2, h3⟩ := ih h
      refine ⟨by omega, ?_, h3⟩
      rw [show i - k = (i - (k + 1)) + 1 by omega]
      simpa using h2
theorem fnd3_none {x : Int} : ∀ {L : List Tr} {k : Nat}, fnd3 x L k = none → ∀ e ∈ L, inG x e = false := by
  intro L
  induction L with
  | nil => intro k h e he; cases he
  | cons a L ih =>
    intro k h e he
    rw [fnd3] at h
    by_cases ha : inG x a = true
    · rw [if_pos ha] at h; cases h
    · rw [if_neg ha] at h
      rcases List.mem_cons.1 he with rfl | he
      · simpa using ha
      · exact ih h e he
set_option maxRecDepth 100000 in
set_option maxHeartbeats 4000000 in
theorem index_calls (w : World) (g : Nat) (x : Int) (A : Option Addr) (m c : Nat) (L : List Tr) (hb : Blk w g 3 #[.int .i64 x]) (hr : Reads w w.heap.size 3 A m (tf L)) (hm : m ≤ 140737488351232) (h0 : ∀ e ∈ L, 0 ≤ e.x) (hx : x ≤ 9223372036854775807) :
    Calls Try.prog 17 #[.slice A m c, .func (.func 18) #[] #[.pointer (some ⟨g, 0, none⟩)]] w fun r w' => r = .returned (.int .i64 (idx3 (fnd3 x L 0))) ∧ Below w.heap.size w w' := by
  have hl := reads_len3 hr
  have HB := Lib.hid hb
  have HR := Lib.hid hr
  have HL := Lib.hid hl
  have H0 := Lib.hid h0
  clear hb hr hl h0
  go_enter Try.func17, Try.ntmps17
  go_wp2
  go_loopg [8] m (fun f i wr => ∃ k : Nat, i = .int .i64 k ∧ k + f = m ∧ fnd3 x L 0 = fnd3 x (L.drop k) k ∧ Below w.heap.size w wr)
  case atStart => exact ⟨0, rfl, by omega, rfl, Below.refl _ _⟩
  case round =>
    obtain ⟨k, rfl, hf, he, HBR⟩ := hrel
    have HE := Lib.hid he
    have HBRh := Lib.hid HBR
    clear he
    by_cases hk : k < m
    · obtain ⟨e, hx1⟩ : ∃ e, L[k]? = some e := ⟨_, List.getElem?_eq_getElem (by have := HL.out; omega)⟩
      have hd := drop_at hx1
      obtain ⟨b, off, rfl, hbl, c0, c1, c2⟩ := reads_at3 (HR.out.below HBR) hx1
      have hk' : (k : Int) < m := by omega
      have HDr := Lib.hid hd
      obtain ⟨f', hf'⟩ : ∃ f', gk = f' + 1 := ⟨gk - 1, by omega⟩
      have HF' := Lib.hid hf'
      have HF := Lib.hid hf
      have K := inG_calls wr g x e (HB.out.below HBR HB.out.lt) (H0.out e (List.mem_of_getElem? hx1)) hx
      clear hf hf' hd hx1 HBR
      cases hi : inG x e
      · rw [hi] at K
        replace K := Lib.hid K
        replace hi := Lib.hid hi
        go_wp2_with (first | (go_at_call 18; (with_reducible refine K.out.mono ?_); rintro r w1 ⟨rfl, hb1⟩))
        go_roundg f'
        case measure => have := HF'.out; omega
        case rel => exact ⟨k + 1, by simp, by have := HF'.out; have := HF.out; omega, by rw [HE.out, HDr.out, fnd3, if_neg (by rw [hi.out]; decide)], below_via HBRh.out hb1⟩
      · rw [hi] at K
        replace K := Lib.hid K
        replace hi := Lib.hid hi
        go_wp2_with (first | (go_at_call 18; (with_reducible refine K.out.mono ?_); rintro r w1 ⟨rfl, hb1⟩))
        go_ret
        exact ⟨by rw [HE.out, HDr.out, fnd3, if_pos hi.out]; rfl, below_via HBRh.out hb1⟩
    · have hk' : ¬ (k : Int) < m := by omega
      have hd : L.drop k = [] := List.drop_of_length_le (by have := HL.out; omega)
      have HDr := Lib.hid hd
      clear hf HBR hd
      go_wp2
      go_ret
      exact ⟨by rw [HE.out, HDr.out]; rfl, HBRh.out⟩
set_option maxRecDepth 100000 in
set_option maxHeartbeats 4000000 in
theorem where_calls (w : World) (x : Int) (A : Option Addr) (m c : Nat) (L : List Tr) (hr : Reads w w.heap.size 3 A m (tf L)) (hm : m ≤ 140737488351232) (h0 : ∀ e ∈ L, 0 ≤ e.x) (hx : x ≤ 9223372036854775807) :
    Calls Try.prog 10 #[.slice A m c, .int .i64 x] w fun r w' => r = .returned (.tuple #[.int .i64 (whr3 x (fnd3 x L 0)).1, .int .i64 (whr3 x (fnd3 x L 0)).2.1, .bool (whr3 x (fnd3 x L 0)).2.2]) ∧ Below w.heap.size w w' := by
  have hl := reads_len3 hr
  have B0 := below_new w (.cells #[.int .i64 x] 3)
  have K := index_calls (w.alloc (.cells #[.int .i64 x] 3)) w.heap.size x A m c L (Blk.new w 3 _) ((hr.below B0).more B0.size) hm h0 hx
  replace B0 := Lib.hid B0
  cases hf : fnd3 x L 0 with
  | none =>
    rw [hf] at K
    replace K := Lib.hid K
    clear hf hr hl h0
    unfold idx3 at K
    go_enter Try.func10, Try.ntmps10
    go_wp2_with (first | (go_at_call 17; (with_reducible refine K.out.mono ?_); rintro r w1 ⟨rfl, hb1⟩))
    refine bodyPost_ret (v := .tuple #[.int .i64 0, .int .i64 0, .bool false]) (by simp [results, Try.results10, go_sem]) rfl ⟨rfl, below_via B0.out hb1⟩
  | some p =>
    obtain ⟨i, e⟩ := p
    obtain ⟨_, he, hin⟩ := fnd3_some hf
    simp only [Nat.sub_zero] at he
    have h00 := h0 e (List.mem_of_getElem? he)
    obtain ⟨b, off, hA, hbl, _⟩ := reads_at3 hr he
    subst hA
    have him : i < m := by have := (List.getElem?_eq_some_iff.1 he).1; omega
    have him' : (i : Int) < m := by omega
    have hin1 : e.x ≤ x := by simp [inG] at hin; exact hin.1
    have hw : IntKind.i64.wrap (x - e.x) = x - e.x := IntWalk.i64_in _ (by omega)
    have hat := fun (w1 : World) (b1 : Below (w.alloc (.cells #[.int .i64 x] 3)).heap.size (w.alloc (.cells #[.int .i64 x] 3)) w1) => reads_at3 (((hr.below B0.out).more B0.out.size).below b1) he
    have hbx := fun (w1 : World) (b1 : Below (w.alloc (.cells #[.int .i64 x] 3)).heap.size (w.alloc (.cells #[.int .i64 x] 3)) w1) => one_cell ((Blk.new w 3 #[.int .i64 x]).below b1 (Blk.new w 3 _).lt)
    rw [hf] at K
    replace K := Lib.hid K
    replace hat := Lib.hid hat
    replace hbx := Lib.hid hbx
    clear hf hr hl h0 he hin
    unfold idx3 at K
    go_enter Try.func10, Try.ntmps10
    go_wp2_with (first | (go_at_call 17; (with_reducible refine K.out.mono ?_); rintro r w1 ⟨rfl, hb1⟩; obtain ⟨b', off', hA', _, c0, c1, c2⟩ := hat.out w1 hb1; cases hA'; have cx := hbx.out w1 hb1; have HB1 := Lib.hid (below_via B0.out hb1)))
    go_quiet (fail)
    go_wp2
    refine bodyPost_ret (v := .tuple #[.int .i64 i, .int .i64 (x - e.x), .bool true]) (by simp [results, Try.results10, go_sem]) rfl ⟨rfl, below_drewN HB1.out _⟩
end Go.Proofs.Ytblkedhkkhppnaa
