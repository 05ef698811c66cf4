/- Fuse: a function's header; the document's Starts. -/
import Derived.Test.YteagkdmefmpokaaDoorDa
namespace Go.Proofs.YteagkdmefmpokaaDoor
open Go.RowKit Go
set_option linter.unusedVariables false
set_option linter.unusedSimpArgs false
/-- three numbers: a handler, a group. -/
structure Tr where
  x : Int
  y : Int
  z : Int
deriving DecidableEq
def tf : List Tr → List Value
  | [] => []
  | e :: L => .int .i64 e.x :: .int .i64 e.y :: .int .i64 e.z :: tf L
theorem tf_length (L : List Tr) : (tf L).length = L.length * 3 := by
  induction L with
  | nil => rfl
  | cons x L ih => simp only [tf, List.length_cons, ih]; omega
theorem tf_append (L M : List Tr) : tf (L ++ M) = tf L ++ tf M := by
  induction L with
  | nil => rfl
  | cons x L ih => simp only [List.cons_append, tf, ih]
theorem tf_one (L : List Tr) : ∀ u ∈ tf L, u.oneCell' = true := by
  induction L with
  | nil => intro u h; cases h
  | cons x L ih =>
    intro u h
    simp only [tf, List.mem_cons] at h
    rcases h with rfl | rfl | rfl | h
    · rfl
    · rfl
    · rfl
    · exact ih u h
theorem tf_get {L : List Tr} {i : Nat} {e : Tr} (h : L[i]? = some e) : (tf L)[i * 3]? = some (.int .i64 e.x) ∧ (tf L)[i * 3 + 1]? = some (.int .i64 e.y) ∧ (tf L)[i * 3 + 2]? = some (.int .i64 e.z) := by
  induction L generalizing i with
  | nil => simp at h
  | cons x L ih =>
    cases i with
    | zero => simp at h; subst h; exact ⟨rfl, rfl, rfl⟩
    | succ i =>
      obtain ⟨h1, h2, h3⟩ := ih (by simpa using h)
      rw [show (i + 1) * 3 = i * 3 + 1 + 1 + 1 by omega]
      exact ⟨h1, by rw [show i * 3 + 1 + 1 + 1 + 1 = (i * 3 + 1) + 1 + 1 + 1 by omega]; exact h2, by rw [show i * 3 + 1 + 1 + 1 + 2 = (i * 3 + 2) + 1 + 1 + 1 by omega]; exact h3⟩
/-- three numbers of a slice, as they are read. -/
structure At3 (w : World) (b off i : Nat) (e : Tr) : Prop where
  x : w.cell? ⟨b, off + i * 3, none⟩ = some (.int .i64 e.x)
  y : w.cell? ⟨b, off + i * 3 + 1, none⟩ = some (.int .i64 e.y)
  z : w.cell? ⟨b, off + i * 3 + 2, none⟩ = some (.int .i64 e.z)
theorem reads_at3 {w : World} {B n : Nat} {A : Option Addr} {L : List Tr} (h : Reads w B 3 A n (tf L)) {i : Nat} {e : Tr} (hi : L[i]? = some e) : ∃ b off, A = some ⟨b, off, none⟩ ∧ b < B ∧ At3 w b off i e := by
  have hl := h.1
  rw [tf_length] at hl
  have hlt : i < L.length := (List.getElem?_eq_some_iff.1 hi).1
  obtain ⟨ad, rfl, hb, hc⟩ := h.2 (by omega)
  obtain ⟨g1, g2, g3⟩ := tf_get hi
  obtain ⟨b, off, sp⟩ := ad
  have h0 : 0 < (tf L).length := by rw [tf_length]; omega
  have hsp : sp = none := by simpa [Addr.add] using World.cell?_spot (hc 0 _ (List.getElem?_eq_getElem h0))
  subst hsp
  exact ⟨b, off, rfl, hb, add_at b off _ w (hc _ _ g1), by rw [Nat.add_assoc]; exact add_at b off _ w (hc _ _ g2), by rw [Nat.add_assoc]; exact add_at b off _ w (hc _ _ g3)⟩
theorem reads_len3 {w : World} {B n : Nat} {A : Option Addr} {L : List Tr} (h : Reads w B 3 A n (tf L)) : L.length = n := by
  have hl := h.1
  rw [tf_length] at hl
  omega
/-- a function's header. -/
structure Hd where
  nm : ByteArray
  pa : Int
  re : Int
  ge : Bool
  Ac : Option Addr
  nc : Nat
  cc : Nat
  Ak : Option Addr
  nk : Nat
  ck : Nat
  Ap : Option Addr
  np : Nat
  cp : Nat
  Ah : Option Addr
  nh : Nat
  ch : Nat
def Hd.v (h : Hd) : Value := .agg #[.string h.nm, .int .i64 h.pa, .int .i64 h.re, .bool h.ge, .slice h.Ac h.nc h.cc, .slice h.Ak h.nk h.ck, .slice h.Ap h.np h.cp, .slice h.Ah h.nh h.ch]
def Hd.b (h : Hd) : Array Value := #[.string h.nm, .int .i64 h.pa, .int .i64 h.re, .bool h.ge, .slice h.Ac h.nc h.cc, .slice h.Ak h.nk h.ck, .slice h.Ap h.np h.cp, .slice h.Ah h.nh h.ch]
/-- its code and its handlers, as they are read. -/
structure Hd.Is (h : Hd) (w : World) (C : List En) (T : List Tr) : Prop where
  code : Reads w w.heap.size 4 h.Ac h.nc (ef C)
  hand : Reads w w.heap.size 3 h.Ah h.nh (tf T)
  nc : h.nc * 32 ≤ 140737488351232
  nh : h.nh * 24 ≤ 140737488351232
theorem Hd.Is.later {h : Hd} {w w' : World} {C : List En} {T : List Tr} (i : h.Is w C T) (b : Below w.heap.size w w') : h.Is w' C T :=
  ⟨(i.code.below b).more b.size, (i.hand.below b).more b.size, i.nc, i.nh⟩
/-- a header in a box. -/
abbrev Hd.box (h : Hd) (w : World) : World := w.alloc (.cells h.b 36)
theorem Hd.cells (h : Hd) {w wr : World} (b : Below (h.box w).heap.size (h.box w) wr) :
    wr.cell? ⟨w.heap.size, 4, none⟩ = some (.slice h.Ac h.nc h.cc) ∧ wr.cell? ⟨w.heap.size, 7, none⟩ = some (.slice h.Ah h.nh h.ch) ∧ w.heap.size < wr.heap.size := by
  have B := Blk.new w 36 h.b
  have B1 := B.below b B.lt
  exact ⟨(B1.cell 4).trans rfl, (B1.cell 7).trans rfl, B1.lt⟩
theorem Hd.all (h : Hd) {w wr : World} (b : Below (h.box w).heap.size (h.box w) wr) : Blk wr w.heap.size 36 h.b := by
  have B := Blk.new w 36 h.b
  exact B.below b B.lt
/-- an instruction, copied. -/
abbrev En.al (e : En) (w : World) (t : TypeId) : World := w.alloc (.cells #[.int .i64 e.s, .int .i64 e.h, .int .i64 e.o, .int .i64 e.c] t)
theorem En.cells (e : En) {w wr : World} {t : TypeId} (b : Below (e.al w t).heap.size (e.al w t) wr) :
    wr.cell? ⟨w.heap.size, 0, none⟩ = some (.int .i64 e.s) ∧ wr.cell? ⟨w.heap.size, 1, none⟩ = some (.int .i64 e.h) ∧ wr.cell? ⟨w.heap.size, 2, none⟩ = some (.int .i64 e.o) ∧ wr.cell? ⟨w.heap.size, 3, none⟩ = some (.int .i64 e.c) ∧ w.heap.size < wr.heap.size := by
  have B := Blk.new w t #[.int .i64 e.s, .int .i64 e.h, .int .i64 e.o, .int .i64 e.c]
  have B1 := B.below b B.lt
  exact ⟨(B1.cell 0).trans rfl, (B1.cell 1).trans rfl, (B1.cell 2).trans rfl, (B1.cell 3).trans rfl, B1.lt⟩
/-- the places that an instruction may jump to. -/
def jmp1 (e : En) : List Int := if e.s = 57 then [e.h] else if e.s = 58 ∨ e.s = 59 then [e.o] else []
def jmp (C : List En) : List Int := C.flatMap jmp1
def tgt (T : List Tr) : List Int := T.map Tr.z
theorem take_at {α : Type} {L : List α} {k : Nat} {e : α} (hx : L[k]? = some e) : L.take (k + 1) = L.take k ++ [e] := by
  obtain ⟨h1, h2⟩ := List.getElem?_eq_some_iff.1 hx
  rw [List.take_succ_eq_append_getElem h1, h2]
theorem mem_jmp_take {C : List En} {k : Nat} {e : En} (hx : C[k]? = some e) (y : Int) : y ∈ jmp (C.take (k + 1)) ↔ y ∈ jmp (C.take k) ∨ y ∈ jmp1 e := by
  rw [take_at hx, jmp, List.flatMap_append, List.mem_append]; simp [jmp]
theorem mem_tgt_take {T : List Tr} {k : Nat} {e : Tr} (hx : T[k]? = some e) (y : Int) : y ∈ tgt (T.take (k + 1)) ↔ y ∈ tgt (T.take k) ∨ y = e.z := by
  rw [take_at hx, tgt, List.map_append, List.mem_append]; simp [tgt]
theorem jmp_cases (e : En) : ((e.s == 57) = true ∧ (e.s == 58) = false ∧ (e.s == 59) = false ∧ jmp1 e = [e.h]) ∨ ((e.s == 57) = false ∧ (e.s == 58) = true ∧ (e.s == 59) = false ∧ jmp1 e = [e.o]) ∨ ((e.s == 57) = false ∧ (e.s == 58) = false ∧ (e.s == 59) = true ∧ jmp1 e = [e.o]) ∨ ((e.s == 57) = false ∧ (e.s == 58) = false ∧ (e.s == 59) = false ∧ jmp1 e = []) := by
  unfold jmp1
  by_cases h1 : e.s = 57
  · left; simp [h1]
  · by_cases h2 : e.s = 58
    · right; left; simp [h2]
    · by_cases h3 : e.s = 59
      · right; right; left; simp [h3]
      · right; right; right; simp [h1, h2, h3]
theorem Bag.rd {w wr : World} {A : Option Addr} {n c : Nat} {l : List Int} (h : Bag w wr (.slice A n c) n l) : Reads wr wr.heap.size 1 A n (ints l) := Reads.of_own h.own
theorem own_base {w : World} {base base' : Nat} {e : TypeId} {s : Nat} {x : Value} {n : Nat} {xs : List Value} (hb : base' ≤ base) (ho : w.ownsRow base e s x n xs) : w.ownsRow base' e s x n xs := by
  obtain ⟨h3, h4⟩ := ho
  refine ⟨h3, ?_⟩
  rcases h4 with h4 | ⟨g, cap, cur, e1, e2, e3, e4⟩
  · exact .inl h4
  · exact .inr ⟨g, cap, cur, e1, by omega, e3, e4⟩
theorem Bag.from {w0 w1 w2 : World} {v : Value} {n : Nat} {l : List Int} (b : Below w0.heap.size w0 w1) (h : Bag w1 w2 v n l) : Bag w0 w2 v n l := ⟨below_via b h.bel, own_base b.size h.own⟩
theorem mem_put {x y : Int} {L : List Int} : y ∈ putGo x L false ↔ y ∈ L ∨ y = x := by
  rw [mem_putGo]; simp [or_comm]
theorem len_put (x : Int) (L : List Int) : (putGo x L false).length ≤ L.length + 1 := by simpa using len_putGo x L false
set_option maxRecDepth 100000 in
set_option maxHeartbeats 4000000 in
theorem rstarts_calls (w : World) (h : Hd) (C : List En) (T : List Tr) (hi : h.Is w C T) :
    Calls Tryd.prog 18 #[h.v] w fun e w' => ∃ A n c L, e = .returned (.slice A n c) ∧ Reads w' w'.heap.size 1 A n (ints L) ∧ (∀ y, y ∈ L ↔ y ∈ jmp C ∨ y ∈ tgt T) ∧ n ≤ h.nc + h.nh ∧ Below w.heap.size w w' := by
  have hlc := reads_len hi.code
  have hlt := reads_len3 hi.hand
  have HI := Lib.hid hi
  have HLC := Lib.hid hlc
  have HLT := Lib.hid hlt
  have hnc := hi.nc
  have hnh := hi.nh
  have B0 := Lib.hid (Bag.none_ (h.box w))
  have HBX := Lib.hid (below_new w (.cells h.b 36))
  have HC := Lib.hid (fun (wr : World) (b : Below (h.box w).heap.size (h.box w) wr) => h.cells b)
  unfold Hd.v
  clear hi hlc hlt
  go_enter Tryd.func18, Tryd.ntmps18
  go_wp2
  go_loopg [3, 4] h.nc (fun f l i wr => ∃ (k n : Nat) (A : Option Addr) (c : Nat) (L : List Int), i = .int .i64 k ∧ l = .slice A n c ∧ k + f = h.nc ∧ Bag (h.box w) wr (.slice A n c) n L ∧ n ≤ k ∧ ∀ y, y ∈ L ↔ y ∈ jmp (C.take k))
  case atStart => exact ⟨0, 0, none, 0, [], rfl, rfl, by omega, B0.out, Nat.le_refl _, fun y => by simp [jmp]⟩
  case round =>
    obtain ⟨k, n, A, c, L, rfl, rfl, hf, hB, hn, hL⟩ := hrel
    have HB := Lib.hid hB
    have HL := Lib.hid hL
    have HF := Lib.hid hf
    obtain ⟨p4, p7, plt⟩ := HC.out wr hB.bel
    by_cases hk : k < h.nc
    · obtain ⟨e, hx⟩ : ∃ e, C[k]? = some e := ⟨_, List.getElem?_eq_getElem (by have := HLC.out; omega)⟩
      obtain ⟨b, off, hA, hbl, c0, c1, c2, c3⟩ := reads_at (((HI.out.later HBX.out).later hB.bel).code) hx
      have HA := Lib.hid hA
      have hk' : (k : Int) < h.nc := by omega
      obtain ⟨f', hf'⟩ : ∃ f', gk = f' + 1 := ⟨gk - 1, by omega⟩
      have HF' := Lib.hid hf'
      have HM := Lib.hid (mem_jmp_take hx)
      have KP := Lib.hid (fun (x : Int) => put_calls (e.al wr 38) A n c L x ((hB.later (below_new wr _)).rd) (by omega))
      have HE := Lib.hid (fun (w1 : World) (b : Below (e.al wr 38).heap.size (e.al wr 38) w1) => e.cells b)
      have HN := Lib.hid (hB.later (below_new wr (.cells #[.int .i64 e.s, .int .i64 e.h, .int .i64 e.o, .int .i64 e.c] 38)))
      rw [hA] at p4
      unfold En.al at KP
      rcases jmp_cases e with ⟨b1, b2, b3, hj⟩ | ⟨b1, b2, b3, hj⟩ | ⟨b1, b2, b3, hj⟩ | ⟨b1, b2, b3, hj⟩
      all_goals
        have HJ := Lib.hid hj
        clear hx hf hf' hB hL hA hj
      · skip
        go_wp2_with (first | (go_at_call 28; (with_reducible refine (KP.out e.h).mono ?_); rintro r w1 ⟨v1, n1, rfl, hb1⟩; obtain ⟨q4, q7, qlt⟩ := HC.out w1 (below_via HB.out.bel (below_via (below_new _ _) hb1.bel)); obtain ⟨y0, y1, y2, y3, ylt⟩ := HE.out w1 hb1.bel; have M1 := Lib.hid (hb1.from (below_via HB.out.bel (below_new _ _))); obtain ⟨A1, c1, rfl, _⟩ := M1.out.slice; clear hb1))
        go_roundg f'
        case measure => have := HF'.out; omega
        case rel => exact ⟨k + 1, _, _, _, _, by simp, rfl, by have := HF'.out; have := HF.out; omega, M1.out, by have := M1.out.len; have := len_put e.h L; have := HB.out.len; omega, fun y => by rw [HM.out, mem_put, HJ.out, HL.out]; simp⟩
      · skip
        go_wp2_with (first | (go_at_call 28; (with_reducible refine (KP.out e.o).mono ?_); rintro r w1 ⟨v1, n1, rfl, hb1⟩; obtain ⟨q4, q7, qlt⟩ := HC.out w1 (below_via HB.out.bel (below_via (below_new _ _) hb1.bel)); obtain ⟨y0, y1, y2, y3, ylt⟩ := HE.out w1 hb1.bel; have M1 := Lib.hid (hb1.from (below_via HB.out.bel (below_new _ _))); obtain ⟨A1, c1, rfl, _⟩ := M1.out.slice; clear hb1))
        go_roundg f'
        case measure => have := HF'.out; omega
        case rel => exact ⟨k + 1, _, _, _, _, by simp, rfl, by have := HF'.out; have := HF.out; omega, M1.out, by have := M1.out.len; have := len_put e.o L; have := HB.out.len; omega, fun y => by rw [HM.out, mem_put, HJ.out, HL.out]; simp⟩
      · skip
        go_wp2_with (first | (go_at_call 28; (with_reducible refine (KP.out e.o).mono ?_); rintro r w1 ⟨v1, n1, rfl, hb1⟩; obtain ⟨q4, q7, qlt⟩ := HC.out w1 (below_via HB.out.bel (below_via (below_new _ _) hb1.bel)); obtain ⟨y0, y1, y2, y3, ylt⟩ := HE.out w1 hb1.bel; have M1 := Lib.hid (hb1.from (below_via HB.out.bel (below_new _ _))); obtain ⟨A1, c1, rfl, _⟩ := M1.out.slice; clear hb1))
        go_roundg f'
        case measure => have := HF'.out; omega
        case rel => exact ⟨k + 1, _, _, _, _, by simp, rfl, by have := HF'.out; have := HF.out; omega, M1.out, by have := M1.out.len; have := len_put e.o L; have := HB.out.len; omega, fun y => by rw [HM.out, mem_put, HJ.out, HL.out]; simp⟩
      · go_wp2
        go_roundg f'
        case measure => have := HF'.out; omega
        case rel => exact ⟨k + 1, n, A, c, L, by simp, rfl, by have := HF'.out; have := HF.out; omega, HN.out, by omega, fun y => by rw [HM.out, HJ.out, HL.out]; simp⟩
    · have e : k = h.nc := by omega
      subst e
      have hC : C.take h.nc = C := List.take_of_length_le (by have := HLC.out; omega)
      rw [hC] at hL
      replace HL := Lib.hid hL
      clear hf hB hL hC
      go_wp2
      go_loopg [3, 6] h.nh (fun f l i wr2 => ∃ (k n : Nat) (A : Option Addr) (c : Nat) (L : List Int), i = .int .i64 k ∧ l = .slice A n c ∧ k + f = h.nh ∧ Bag (h.box w) wr2 (.slice A n c) n L ∧ n ≤ h.nc + k ∧ ∀ y, y ∈ L ↔ y ∈ jmp C ∨ y ∈ tgt (T.take k))
      case atStart => exact ⟨0, n, A, c, L, rfl, rfl, by omega, HB.out, by omega, fun y => by rw [HL.out]; simp [tgt]⟩
      case round =>
        clear HB HL p4 p7 plt hn
        obtain ⟨k, n, A, c, L, rfl, rfl, hf, hB, hn, hL⟩ := hrel
        rename World => wr2
        have HB := Lib.hid hB
        have HL := Lib.hid hL
        have HF := Lib.hid hf
        obtain ⟨p4, p7, plt⟩ := HC.out wr2 hB.bel
        by_cases hk : k < h.nh
        · obtain ⟨e, hx⟩ : ∃ e, T[k]? = some e := ⟨_, List.getElem?_eq_getElem (by have := HLT.out; omega)⟩
          obtain ⟨b, off, hA, hbl, c0, c1, c2⟩ := reads_at3 (((HI.out.later HBX.out).later hB.bel).hand) hx
          have HA := Lib.hid hA
          have hk' : (k : Int) < h.nh := by omega
          obtain ⟨f', hf'⟩ : ∃ f', gk = f' + 1 := ⟨gk - 1, by omega⟩
          have HF' := Lib.hid hf'
          have HM := Lib.hid (mem_tgt_take hx)
          have KP := Lib.hid (put_calls wr2 A n c L e.z hB.rd (by omega))
          rw [hA] at p7
          clear hx hf hf' hB hL hA
          go_wp2_with (first | (go_at_call 28; (with_reducible refine KP.out.mono ?_); rintro r w1 ⟨v1, n1, rfl, hb1⟩; obtain ⟨q4, q7, qlt⟩ := HC.out w1 (below_via HB.out.bel hb1.bel); have M1 := Lib.hid (hb1.from HB.out.bel); obtain ⟨A1, c1, rfl, _⟩ := M1.out.slice; clear hb1))
          go_roundg f'
          case measure => have := HF'.out; omega
          case rel => exact ⟨k + 1, _, _, _, _, by simp, rfl, by have := HF'.out; have := HF.out; omega, M1.out, by have := M1.out.len; have := len_put e.z L; have := HB.out.len; omega, fun y => by rw [HM.out, mem_put, HL.out]; simp [or_assoc]⟩
        · have e : k = h.nh := by omega
          have hT : T.take k = T := List.take_of_length_le (by have := HLT.out; omega)
          rw [hT] at hL
          replace HL := Lib.hid hL
          have hk' : (k : Int) = h.nh := by omega
          clear hf hB hL hT e
          go_wp2
          go_ret
          exact ⟨_, _, _, _, rfl, HB.out.rd, HL.out, by omega, below_via HBX.out HB.out.bel⟩
end Go.Proofs.YteagkdmefmpokaaDoor
